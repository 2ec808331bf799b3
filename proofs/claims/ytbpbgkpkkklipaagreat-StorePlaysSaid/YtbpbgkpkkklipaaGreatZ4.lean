/- Contracts and plain laws that the claim rests on, for every input: no condition. -/
import Derived.Test.YtbpbgkpkkklipaaGreatZ3
namespace Go.Proofs.YtbpbgkpkkklipaaGreat
open Go.V
-- slices.partitionOrdered[uint32] (104)
def slices_partitionOrdered_uint32.ann : Ann := { loops := [(0, [(10, .one (.int .i64))]), (2, [(11, .one (.int .i64))]), (4, [(10, .one (.int .i64)), (11, .one (.int .i64))]), (6, [(10, .one (.int .i64))]), (8, [(11, .one (.int .i64))])], pars := [] }
def slices_partitionOrdered_uint32.k5 (K : Int → Bool → Hp → Prop) (a4 : Int) (datal2 : Nat) (datap1 : Option Addr) (j146 : Int) (Hx147 : Hp) : Prop :=
  IDX a4 datal2 fun k148 => NIL datap1 fun bq149 oq150 => ldI .u32 (rd Hx147 bq149 (oq150 + k148)) fun x151 => IDX j146 datal2 fun k152 => NIL datap1 fun bq153 oq154 => ldI .u32 (rd Hx147 bq153 (oq154 + k152)) fun x155 => IDX j146 datal2 fun k156 => NIL datap1 fun bq157 oq158 => ST Hx147 bq157 (oq158 + k156) (.int .u32 x151) fun Hx159 => IDX a4 datal2 fun k160 => NIL datap1 fun bq161 oq162 => ST Hx159 bq161 (oq162 + k160) (.int .u32 x155) fun Hx163 => K j146 false Hx163
def slices_partitionOrdered_uint32.k4 (Hx103 : Hp) (Iq104 : Int → Int → Hp → Prop) (K : Int → Bool → Hp → Prop) (a4 : Int) (datal2 : Nat) (datap1 : Option Addr) (i101 : Int) (i124 : Int) (j102 : Int) (mu105 : Int → Int → Hp → Nat) (j144 : Int) (Hx145 : Hp) : Prop :=
  bc ((decide (j144 < i124))) (slices_partitionOrdered_uint32.k5 K a4 datal2 datap1 j144 Hx145) (IDX j144 datal2 fun k167 => NIL datap1 fun bq168 oq169 => ldI .u32 (rd Hx145 bq168 (oq169 + k167)) fun x170 => IDX i124 datal2 fun k171 => NIL datap1 fun bq172 oq173 => ldI .u32 (rd Hx145 bq172 (oq173 + k171)) fun x174 => IDX i124 datal2 fun k175 => NIL datap1 fun bq176 oq177 => ST Hx145 bq176 (oq177 + k175) (.int .u32 x170) fun Hx178 => IDX j144 datal2 fun k179 => NIL datap1 fun bq180 oq181 => ST Hx178 bq180 (oq181 + k179) (.int .u32 x174) fun Hx182 => CHK .i64 (i124 + (1 : Int)) fun x183 => CHK .i64 (j144 - (1 : Int)) fun x184 => Iq104 x183 x184 Hx182 ∧ mu105 x183 x184 Hx182 < mu105 i101 j102 Hx103)
def slices_partitionOrdered_uint32.k3 (Hx103 : Hp) (Iq104 : Int → Int → Hp → Prop) (K : Int → Bool → Hp → Prop) (a4 : Int) (datal2 : Nat) (datap1 : Option Addr) (i101 : Int) (j102 : Int) (mu105 : Int → Int → Hp → Nat) (i124 : Int) (Hx125 : Hp) : Prop :=
  ∃ (Iq128 : Int → Hp → Prop) (mu129 : Int → Hp → Nat), Iq128 j102 Hx125 ∧ ∀ (j126 : Int) (Hx127 : Hp), Iq128 j126 Hx127 → bc ((decide (i124 ≤ j126))) (IDX j126 datal2 fun k130 => NIL datap1 fun bq131 oq132 => ldI .u32 (rd Hx127 bq131 (oq132 + k130)) fun x133 => IDX a4 datal2 fun k134 => NIL datap1 fun bq135 oq136 => ldI .u32 (rd Hx127 bq135 (oq136 + k134)) fun x137 => cmp_Less_uint32.C x133 x137 Hx127 fun r138 Hx139 => bc ((!r138)) (CHK .i64 (j126 - (1 : Int)) fun x142 => Iq128 x142 Hx139 ∧ mu129 x142 Hx139 < mu129 j126 Hx127) (slices_partitionOrdered_uint32.k4 Hx103 Iq104 K a4 datal2 datap1 i101 i124 j102 mu105 j126 Hx139)) (slices_partitionOrdered_uint32.k4 Hx103 Iq104 K a4 datal2 datap1 i101 i124 j102 mu105 j126 Hx127)
def slices_partitionOrdered_uint32.k2 (K : Int → Bool → Hp → Prop) (a4 : Int) (datal2 : Nat) (datap1 : Option Addr) (i43 : Int) (j63 : Int) (Hx64 : Hp) : Prop :=
  bc ((decide (j63 < i43))) (IDX a4 datal2 fun k65 => NIL datap1 fun bq66 oq67 => ldI .u32 (rd Hx64 bq66 (oq67 + k65)) fun x68 => IDX j63 datal2 fun k69 => NIL datap1 fun bq70 oq71 => ldI .u32 (rd Hx64 bq70 (oq71 + k69)) fun x72 => IDX j63 datal2 fun k73 => NIL datap1 fun bq74 oq75 => ST Hx64 bq74 (oq75 + k73) (.int .u32 x68) fun Hx76 => IDX a4 datal2 fun k77 => NIL datap1 fun bq78 oq79 => ST Hx76 bq78 (oq79 + k77) (.int .u32 x72) fun Hx80 => K j63 true Hx80) (IDX j63 datal2 fun k83 => NIL datap1 fun bq84 oq85 => ldI .u32 (rd Hx64 bq84 (oq85 + k83)) fun x86 => IDX i43 datal2 fun k87 => NIL datap1 fun bq88 oq89 => ldI .u32 (rd Hx64 bq88 (oq89 + k87)) fun x90 => IDX i43 datal2 fun k91 => NIL datap1 fun bq92 oq93 => ST Hx64 bq92 (oq93 + k91) (.int .u32 x86) fun Hx94 => IDX j63 datal2 fun k95 => NIL datap1 fun bq96 oq97 => ST Hx94 bq96 (oq97 + k95) (.int .u32 x90) fun Hx98 => CHK .i64 (i43 + (1 : Int)) fun x99 => CHK .i64 (j63 - (1 : Int)) fun x100 => ∃ (Iq104 : Int → Int → Hp → Prop) (mu105 : Int → Int → Hp → Nat), Iq104 x99 x100 Hx98 ∧ ∀ (i101 : Int) (j102 : Int) (Hx103 : Hp), Iq104 i101 j102 Hx103 → ∃ (Iq108 : Int → Hp → Prop) (mu109 : Int → Hp → Nat), Iq108 i101 Hx103 ∧ ∀ (i106 : Int) (Hx107 : Hp), Iq108 i106 Hx107 → bc ((decide (i106 ≤ j102))) (IDX i106 datal2 fun k110 => NIL datap1 fun bq111 oq112 => ldI .u32 (rd Hx107 bq111 (oq112 + k110)) fun x113 => IDX a4 datal2 fun k114 => NIL datap1 fun bq115 oq116 => ldI .u32 (rd Hx107 bq115 (oq116 + k114)) fun x117 => cmp_Less_uint32.C x113 x117 Hx107 fun r118 Hx119 => bc (r118) (CHK .i64 (i106 + (1 : Int)) fun x122 => Iq108 x122 Hx119 ∧ mu109 x122 Hx119 < mu109 i106 Hx107) (slices_partitionOrdered_uint32.k3 Hx103 Iq104 K a4 datal2 datap1 i101 j102 mu105 i106 Hx119)) (slices_partitionOrdered_uint32.k3 Hx103 Iq104 K a4 datal2 datap1 i101 j102 mu105 i106 Hx107))
def slices_partitionOrdered_uint32.k1 (K : Int → Bool → Hp → Prop) (a4 : Int) (datal2 : Nat) (datap1 : Option Addr) (x24 : Int) (i43 : Int) (Hx44 : Hp) : Prop :=
  ∃ (Iq47 : Int → Hp → Prop) (mu48 : Int → Hp → Nat), Iq47 x24 Hx44 ∧ ∀ (j45 : Int) (Hx46 : Hp), Iq47 j45 Hx46 → bc ((decide (i43 ≤ j45))) (IDX j45 datal2 fun k49 => NIL datap1 fun bq50 oq51 => ldI .u32 (rd Hx46 bq50 (oq51 + k49)) fun x52 => IDX a4 datal2 fun k53 => NIL datap1 fun bq54 oq55 => ldI .u32 (rd Hx46 bq54 (oq55 + k53)) fun x56 => cmp_Less_uint32.C x52 x56 Hx46 fun r57 Hx58 => bc ((!r57)) (CHK .i64 (j45 - (1 : Int)) fun x61 => Iq47 x61 Hx58 ∧ mu48 x61 Hx58 < mu48 j45 Hx46) (slices_partitionOrdered_uint32.k2 K a4 datal2 datap1 i43 j45 Hx58)) (slices_partitionOrdered_uint32.k2 K a4 datal2 datap1 i43 j45 Hx46)
def slices_partitionOrdered_uint32.F (datap1 : Option Addr) (datal2 : Nat) (_datac3 : Nat) (a4 : Int) (bq5 : Int) (pivot6 : Int) (H : Hp) (K : Int → Bool → Hp → Prop) : Prop :=
  IDX pivot6 datal2 fun k7 => NIL datap1 fun bq8 oq9 => ldI .u32 (rd H bq8 (oq9 + k7)) fun x10 => IDX a4 datal2 fun k11 => NIL datap1 fun bq12 oq13 => ldI .u32 (rd H bq12 (oq13 + k11)) fun x14 => IDX a4 datal2 fun k15 => NIL datap1 fun bq16 oq17 => ST H bq16 (oq17 + k15) (.int .u32 x10) fun Hx18 => IDX pivot6 datal2 fun k19 => NIL datap1 fun bq20 oq21 => ST Hx18 bq20 (oq21 + k19) (.int .u32 x14) fun Hx22 => CHK .i64 (a4 + (1 : Int)) fun x23 => CHK .i64 (bq5 - (1 : Int)) fun x24 => ∃ (Iq27 : Int → Hp → Prop) (mu28 : Int → Hp → Nat), Iq27 x23 Hx22 ∧ ∀ (i25 : Int) (Hx26 : Hp), Iq27 i25 Hx26 → bc ((decide (i25 ≤ x24))) (IDX i25 datal2 fun k29 => NIL datap1 fun bq30 oq31 => ldI .u32 (rd Hx26 bq30 (oq31 + k29)) fun x32 => IDX a4 datal2 fun k33 => NIL datap1 fun bq34 oq35 => ldI .u32 (rd Hx26 bq34 (oq35 + k33)) fun x36 => cmp_Less_uint32.C x32 x36 Hx26 fun r37 Hx38 => bc (r37) (CHK .i64 (i25 + (1 : Int)) fun x41 => Iq27 x41 Hx38 ∧ mu28 x41 Hx38 < mu28 i25 Hx26) (slices_partitionOrdered_uint32.k1 K a4 datal2 datap1 x24 i25 Hx38)) (slices_partitionOrdered_uint32.k1 K a4 datal2 datap1 x24 i25 Hx26)
theorem slices_partitionOrdered_uint32.vc (datap1 : Option Addr) (datal2 : Nat) (datac3 : Nat) (a4 : Int) (bq5 : Int) (pivot6 : Int) (H : Hp) (K : Int → Bool → Hp → Prop) : vcFun prog tab slices_partitionOrdered_uint32.ann none Tryz.f104 (List.map AV.v [.slice datap1 datal2 datac3, .int .i64 a4, .int .i64 bq5, .int .i64 pivot6]) H (fun v H2 _ => tupV v fun vs => d2 vs fun wv0 wv1 => liftI .i64 wv0 fun r195 => liftB wv1 fun r196 => K r195 r196 H2) = slices_partitionOrdered_uint32.F datap1 datal2 datac3 a4 bq5 pivot6 H K := by kernel_rfl
theorem slices_partitionOrdered_uint32.of (datap1 : Option Addr) (datal2 : Nat) (datac3 : Nat) (a4 : Int) (bq5 : Int) (pivot6 : Int) {H : Hp} {K : Int → Bool → Hp → Prop} (h : slices_partitionOrdered_uint32.F datap1 datal2 datac3 a4 bq5 pivot6 H K) : slices_partitionOrdered_uint32.C datap1 datal2 datac3 a4 bq5 pivot6 H K := CallH_of_vc mix tabOk Tryz.func104 (by kernel_rfl) ((slices_partitionOrdered_uint32.vc datap1 datal2 datac3 a4 bq5 pivot6 H K).mpr h)
-- math/bits.Len64 (106)
def math_bits_Len64.ann : Ann := { loops := [], pars := [] }
def math_bits_Len64.k3 (K : Int → Hp → Prop) (x10 : Int) (n11 : Int) (Hx12 : Hp) : Prop :=
  IDX (IntKind.wrap .u8 x10) (bs [0, 1, 2, 2, 3, 3, 3, 3, 4, 4, 4, 4, 4, 4, 4, 4, 5, 5, 5, 5, 5, 5, 5, 5, 5, 5, 5, 5, 5, 5, 5, 5, 6, 6, 6, 6, 6, 6, 6, 6, 6, 6, 6, 6, 6, 6, 6, 6, 6, 6, 6, 6, 6, 6, 6, 6, 6, 6, 6, 6, 6, 6, 6, 6, 7, 7, 7, 7, 7, 7, 7, 7, 7, 7, 7, 7, 7, 7, 7, 7, 7, 7, 7, 7, 7, 7, 7, 7, 7, 7, 7, 7, 7, 7, 7, 7, 7, 7, 7, 7, 7, 7, 7, 7, 7, 7, 7, 7, 7, 7, 7, 7, 7, 7, 7, 7, 7, 7, 7, 7, 7, 7, 7, 7, 7, 7, 7, 7, 8, 8, 8, 8, 8, 8, 8, 8, 8, 8, 8, 8, 8, 8, 8, 8, 8, 8, 8, 8, 8, 8, 8, 8, 8, 8, 8, 8, 8, 8, 8, 8, 8, 8, 8, 8, 8, 8, 8, 8, 8, 8, 8, 8, 8, 8, 8, 8, 8, 8, 8, 8, 8, 8, 8, 8, 8, 8, 8, 8, 8, 8, 8, 8, 8, 8, 8, 8, 8, 8, 8, 8, 8, 8, 8, 8, 8, 8, 8, 8, 8, 8, 8, 8, 8, 8, 8, 8, 8, 8, 8, 8, 8, 8, 8, 8, 8, 8, 8, 8, 8, 8, 8, 8, 8, 8, 8, 8, 8, 8, 8, 8, 8, 8, 8, 8, 8, 8, 8, 8, 8, 8, 8, 8, 8, 8, 8, 8]).size fun k13 => CHK .i64 (((bs [0, 1, 2, 2, 3, 3, 3, 3, 4, 4, 4, 4, 4, 4, 4, 4, 5, 5, 5, 5, 5, 5, 5, 5, 5, 5, 5, 5, 5, 5, 5, 5, 6, 6, 6, 6, 6, 6, 6, 6, 6, 6, 6, 6, 6, 6, 6, 6, 6, 6, 6, 6, 6, 6, 6, 6, 6, 6, 6, 6, 6, 6, 6, 6, 7, 7, 7, 7, 7, 7, 7, 7, 7, 7, 7, 7, 7, 7, 7, 7, 7, 7, 7, 7, 7, 7, 7, 7, 7, 7, 7, 7, 7, 7, 7, 7, 7, 7, 7, 7, 7, 7, 7, 7, 7, 7, 7, 7, 7, 7, 7, 7, 7, 7, 7, 7, 7, 7, 7, 7, 7, 7, 7, 7, 7, 7, 7, 7, 8, 8, 8, 8, 8, 8, 8, 8, 8, 8, 8, 8, 8, 8, 8, 8, 8, 8, 8, 8, 8, 8, 8, 8, 8, 8, 8, 8, 8, 8, 8, 8, 8, 8, 8, 8, 8, 8, 8, 8, 8, 8, 8, 8, 8, 8, 8, 8, 8, 8, 8, 8, 8, 8, 8, 8, 8, 8, 8, 8, 8, 8, 8, 8, 8, 8, 8, 8, 8, 8, 8, 8, 8, 8, 8, 8, 8, 8, 8, 8, 8, 8, 8, 8, 8, 8, 8, 8, 8, 8, 8, 8, 8, 8, 8, 8, 8, 8, 8, 8, 8, 8, 8, 8, 8, 8, 8, 8, 8, 8, 8, 8, 8, 8, 8, 8, 8, 8, 8, 8, 8, 8, 8, 8, 8, 8, 8, 8]).data.toList.getD k13 0).toNat : Int) fun x14 => CHK .i64 (n11 + x14) fun x15 => K x15 Hx12
def math_bits_Len64.k2 (K : Int → Hp → Prop) (x6 : Int) (n7 : Int) (Hx8 : Hp) : Prop :=
  bc ((decide ((256 : Int) ≤ x6))) (0 ≤ (8 : Int) ∧ (CHK .i64 (n7 + (8 : Int)) fun x9 => math_bits_Len64.k3 K (ishr .u64 x6 (8 : Int)) x9 Hx8)) (math_bits_Len64.k3 K x6 n7 Hx8)
def math_bits_Len64.k1 (K : Int → Hp → Prop) (x2 : Int) (n3 : Int) (Hx4 : Hp) : Prop :=
  bc ((decide ((65536 : Int) ≤ x2))) (0 ≤ (16 : Int) ∧ (CHK .i64 (n3 + (16 : Int)) fun x5 => math_bits_Len64.k2 K (ishr .u64 x2 (16 : Int)) x5 Hx4)) (math_bits_Len64.k2 K x2 n3 Hx4)
def math_bits_Len64.F (x1 : Int) (H : Hp) (K : Int → Hp → Prop) : Prop :=
  bc ((decide ((4294967296 : Int) ≤ x1))) (0 ≤ (32 : Int) ∧ (math_bits_Len64.k1 K (ishr .u64 x1 (32 : Int)) (32 : Int) H)) (math_bits_Len64.k1 K x1 (0 : Int) H)
theorem math_bits_Len64.vc (x1 : Int) (H : Hp) (K : Int → Hp → Prop) : vcFun prog tab math_bits_Len64.ann none Tryz.f106 (List.map AV.v [.int .u64 x1]) H (fun v H2 _ => liftI .i64 v fun r29 => K r29 H2) = math_bits_Len64.F x1 H K := by kernel_rfl
theorem math_bits_Len64.of (x1 : Int) {H : Hp} {K : Int → Hp → Prop} (h : math_bits_Len64.F x1 H K) : math_bits_Len64.C x1 H K := CallH_of_vc mix tabOk Tryz.func106 (by kernel_rfl) ((math_bits_Len64.vc x1 H K).mpr h)
-- slices.AppendSeq[[]uint32,uint32] (107)
def slices_AppendSeq_uint32_uint32.ann : Ann := { loops := [], pars := [(7, .one (.int .u32))] }
def slices_AppendSeq_uint32_uint32.F (sp1 : Option Addr) (sl2 : Nat) (sc3 : Nat) (seq4 : Value) (H : Hp) (K : Option Addr → Nat → Nat → Hp → Prop) : Prop :=
  NEW H [.slice sp1 sl2 sc3] fun bq5 Hx6 => ITERV prog seq4 Hx6 (fun vals Hx8 Kbq9 => d1 vals fun w0 => liftI .u32 w0 fun z7 => ldL (rd Hx8 bq5 0) fun xp10 xl11 xc12 => NEW Hx8 ([.int .u32 z7]) fun bq13 Hx14 => APP Hx14 te_uint32 xp10 xl11 xc12 (.slice (some ⟨bq13, 0, none⟩) 1 1) fun xp15 xl16 xc17 Hx18 => ST Hx18 bq5 0 (.slice xp15 xl16 xc17) fun Hx19 => Kbq9 .on Hx19) (fun al20 Hx21 => alC al20 (ldL (rd Hx21 bq5 0) fun xp24 xl25 xc26 => K xp24 xl25 xc26 Hx21) fun _ _ => True)
theorem slices_AppendSeq_uint32_uint32.vc (sp1 : Option Addr) (sl2 : Nat) (sc3 : Nat) (seq4 : Value) (H : Hp) (K : Option Addr → Nat → Nat → Hp → Prop) : vcFun prog tab slices_AppendSeq_uint32_uint32.ann none Tryz.f107 (List.map AV.v [.slice sp1 sl2 sc3, seq4]) H (fun v H2 _ => liftL v fun rp30 rl31 rc32 => K rp30 rl31 rc32 H2) = slices_AppendSeq_uint32_uint32.F sp1 sl2 sc3 seq4 H K := by kernel_rfl
theorem slices_AppendSeq_uint32_uint32.of (sp1 : Option Addr) (sl2 : Nat) (sc3 : Nat) (seq4 : Value) {H : Hp} {K : Option Addr → Nat → Nat → Hp → Prop} (h : slices_AppendSeq_uint32_uint32.F sp1 sl2 sc3 seq4 H K) : slices_AppendSeq_uint32_uint32.C sp1 sl2 sc3 seq4 H K := CallH_of_vc mix tabOk Tryz.func107 (by kernel_rfl) ((slices_AppendSeq_uint32_uint32.vc sp1 sl2 sc3 seq4 H K).mpr h)
-- cmp.isNaN[string] (108)
def cmp_isNaN_string.ann : Ann := { loops := [], pars := [] }
def cmp_isNaN_string.F (x1 : ByteArray) (H : Hp) (K : Bool → Hp → Prop) : Prop :=
  K (decide (¬ x1 = x1)) H
theorem cmp_isNaN_string.vc (x1 : ByteArray) (H : Hp) (K : Bool → Hp → Prop) : vcFun prog tab cmp_isNaN_string.ann none Tryz.f108 (List.map AV.v [.string x1]) H (fun v H2 _ => liftB v fun r3 => K r3 H2) = cmp_isNaN_string.F x1 H K := by kernel_rfl
theorem cmp_isNaN_string.of (x1 : ByteArray) {H : Hp} {K : Bool → Hp → Prop} (h : cmp_isNaN_string.F x1 H K) : cmp_isNaN_string.C x1 H K := CallH_of_vc mix tabOk Tryz.func108 (by kernel_rfl) ((cmp_isNaN_string.vc x1 H K).mpr h)
-- cmp.isNaN[uint32] (109)
def cmp_isNaN_uint32.ann : Ann := { loops := [], pars := [] }
def cmp_isNaN_uint32.F (x1 : Int) (H : Hp) (K : Bool → Hp → Prop) : Prop :=
  K (decide (¬ x1 = x1)) H
theorem cmp_isNaN_uint32.vc (x1 : Int) (H : Hp) (K : Bool → Hp → Prop) : vcFun prog tab cmp_isNaN_uint32.ann none Tryz.f109 (List.map AV.v [.int .u32 x1]) H (fun v H2 _ => liftB v fun r3 => K r3 H2) = cmp_isNaN_uint32.F x1 H K := by kernel_rfl
theorem cmp_isNaN_uint32.of (x1 : Int) {H : Hp} {K : Bool → Hp → Prop} (h : cmp_isNaN_uint32.F x1 H K) : cmp_isNaN_uint32.C x1 H K := CallH_of_vc mix tabOk Tryz.func109 (by kernel_rfl) ((cmp_isNaN_uint32.vc x1 H K).mpr h)
-- cento/patch.Needs$1 (110)
def patch_Needs_1.ann : Ann := { loops := [], pars := [] }
def patch_Needs_1.F (id1 : Int) (cap2 : Nat) (H : Hp) (K : Bool → Hp → Prop) : Prop :=
  ldI .u32 (rd H cap2 0) fun x3 => K (decide (id1 = x3)) H
theorem patch_Needs_1.vc (id1 : Int) (cap2 : Nat) (H : Hp) (K : Bool → Hp → Prop) : vcFun prog tab patch_Needs_1.ann none Tryz.f110 (List.map AV.v [.int .u32 id1, .pointer (some ⟨cap2, 0, none⟩)]) H (fun v H2 _ => liftB v fun r5 => K r5 H2) = patch_Needs_1.F id1 cap2 H K := by kernel_rfl
theorem patch_Needs_1.of (id1 : Int) (cap2 : Nat) {H : Hp} {K : Bool → Hp → Prop} (h : patch_Needs_1.F id1 cap2 H K) : patch_Needs_1.C id1 cap2 H K := CallH_of_vc mix tabOk Tryz.func110 (by kernel_rfl) ((patch_Needs_1.vc id1 cap2 H K).mpr h)
-- cmp.Or[int] (111)
def cmp_Or_int.ann : Ann := { loops := [(0, [(8, .one (.int .i64))])], pars := [] }
def cmp_Or_int.F (valsp1 : Option Addr) (valsl2 : Nat) (_valsc3 : Nat) (H : Hp) (K : Int → Hp → Prop) : Prop :=
  ∃ (Iq6 : Int → Hp → Prop) (mu7 : Int → Hp → Nat), Iq6 (0 : Int) H ∧ ∀ (t4 : Int) (Hx5 : Hp), Iq6 t4 Hx5 → bc ((decide (t4 < ((valsl2 : Nat) : Int)))) (IDX t4 valsl2 fun k8 => NIL valsp1 fun bq9 oq10 => ldI .i64 (rd Hx5 bq9 (oq10 + k8)) fun x11 => bc ((decide (¬ x11 = (0 : Int)))) (K x11 Hx5) (CHK .i64 (t4 + (1 : Int)) fun x13 => Iq6 x13 Hx5 ∧ mu7 x13 Hx5 < mu7 t4 Hx5)) (K (0 : Int) Hx5)
theorem cmp_Or_int.vc (valsp1 : Option Addr) (valsl2 : Nat) (valsc3 : Nat) (H : Hp) (K : Int → Hp → Prop) : vcFun prog tab cmp_Or_int.ann none Tryz.f111 (List.map AV.v [.slice valsp1 valsl2 valsc3]) H (fun v H2 _ => liftI .i64 v fun r16 => K r16 H2) = cmp_Or_int.F valsp1 valsl2 valsc3 H K := by kernel_rfl
theorem cmp_Or_int.of (valsp1 : Option Addr) (valsl2 : Nat) (valsc3 : Nat) {H : Hp} {K : Int → Hp → Prop} (h : cmp_Or_int.F valsp1 valsl2 valsc3 H K) : cmp_Or_int.C valsp1 valsl2 valsc3 H K := CallH_of_vc mix tabOk Tryz.func111 (by kernel_rfl) ((cmp_Or_int.vc valsp1 valsl2 valsc3 H K).mpr h)
-- cmp.Compare[int] (112)
def cmp_Compare_int.ann : Ann := { loops := [], pars := [] }
def cmp_Compare_int.F (x1 : Int) (y2 : Int) (H : Hp) (K : Int → Hp → Prop) : Prop :=
  cmp_isNaN_int.C x1 H fun r3 Hx4 => cmp_isNaN_int.C y2 Hx4 fun r6 Hx7 => bc (r3) (bc (r6) (K (0 : Int) Hx7) (K (-1 : Int) Hx7)) (bc (r6) (K (1 : Int) Hx7) (bc ((decide (x1 < y2))) (K (-1 : Int) Hx7) (bc ((decide (y2 < x1))) (K (1 : Int) Hx7) (K (0 : Int) Hx7))))
theorem cmp_Compare_int.vc (x1 : Int) (y2 : Int) (H : Hp) (K : Int → Hp → Prop) : vcFun prog tab cmp_Compare_int.ann none Tryz.f112 (List.map AV.v [.int .i64 x1, .int .i64 y2]) H (fun v H2 _ => liftI .i64 v fun r15 => K r15 H2) = cmp_Compare_int.F x1 y2 H K := by kernel_rfl
theorem cmp_Compare_int.of (x1 : Int) (y2 : Int) {H : Hp} {K : Int → Hp → Prop} (h : cmp_Compare_int.F x1 y2 H K) : cmp_Compare_int.C x1 y2 H K := CallH_of_vc mix tabOk Tryz.func112 (by kernel_rfl) ((cmp_Compare_int.vc x1 y2 H K).mpr h)
-- slices.siftDownOrdered[uint32] (113)
def slices_siftDownOrdered_uint32.ann : Ann := { loops := [(0, [(8, .one (.int .i64))])], pars := [] }
def slices_siftDownOrdered_uint32.k1 (Hx8 : Hp) (Iq9 : Int → Hp → Prop) (K : Hp → Prop) (datal2 : Nat) (datap1 : Option Addr) (first6 : Int) (mu10 : Int → Hp → Nat) (root7 : Int) (child30 : Int) (Hx31 : Hp) : Prop :=
  CHK .i64 (first6 + root7) fun x32 => IDX x32 datal2 fun k33 => NIL datap1 fun bq34 oq35 => ldI .u32 (rd Hx31 bq34 (oq35 + k33)) fun x36 => CHK .i64 (first6 + child30) fun x37 => IDX x37 datal2 fun k38 => NIL datap1 fun bq39 oq40 => ldI .u32 (rd Hx31 bq39 (oq40 + k38)) fun x41 => cmp_Less_uint32.C x36 x41 Hx31 fun r42 Hx43 => bc ((!r42)) (K Hx43) (CHK .i64 (first6 + root7) fun x46 => CHK .i64 (first6 + child30) fun x47 => CHK .i64 (first6 + child30) fun x48 => IDX x48 datal2 fun k49 => NIL datap1 fun bq50 oq51 => ldI .u32 (rd Hx43 bq50 (oq51 + k49)) fun x52 => CHK .i64 (first6 + root7) fun x53 => IDX x53 datal2 fun k54 => NIL datap1 fun bq55 oq56 => ldI .u32 (rd Hx43 bq55 (oq56 + k54)) fun x57 => IDX x46 datal2 fun k58 => NIL datap1 fun bq59 oq60 => ST Hx43 bq59 (oq60 + k58) (.int .u32 x52) fun Hx61 => IDX x47 datal2 fun k62 => NIL datap1 fun bq63 oq64 => ST Hx61 bq63 (oq64 + k62) (.int .u32 x57) fun Hx65 => Iq9 child30 Hx65 ∧ mu10 child30 Hx65 < mu10 root7 Hx8)
def slices_siftDownOrdered_uint32.F (datap1 : Option Addr) (datal2 : Nat) (_datac3 : Nat) (lo4 : Int) (hi5 : Int) (first6 : Int) (H : Hp) (K : Hp → Prop) : Prop :=
  ∃ (Iq9 : Int → Hp → Prop) (mu10 : Int → Hp → Nat), Iq9 lo4 H ∧ ∀ (root7 : Int) (Hx8 : Hp), Iq9 root7 Hx8 → CHK .i64 ((2 : Int) * root7) fun x11 => CHK .i64 (x11 + (1 : Int)) fun x12 => bc ((decide (hi5 ≤ x12))) (K Hx8) (CHK .i64 (x12 + (1 : Int)) fun x13 => bc ((decide (x13 < hi5))) (CHK .i64 (first6 + x12) fun x14 => IDX x14 datal2 fun k15 => NIL datap1 fun bq16 oq17 => ldI .u32 (rd Hx8 bq16 (oq17 + k15)) fun x18 => CHK .i64 (first6 + x12) fun x19 => CHK .i64 (x19 + (1 : Int)) fun x20 => IDX x20 datal2 fun k21 => NIL datap1 fun bq22 oq23 => ldI .u32 (rd Hx8 bq22 (oq23 + k21)) fun x24 => cmp_Less_uint32.C x18 x24 Hx8 fun r25 Hx26 => bc (r25) (CHK .i64 (x12 + (1 : Int)) fun x29 => slices_siftDownOrdered_uint32.k1 Hx8 Iq9 K datal2 datap1 first6 mu10 root7 x29 Hx26) (slices_siftDownOrdered_uint32.k1 Hx8 Iq9 K datal2 datap1 first6 mu10 root7 x12 Hx26)) (slices_siftDownOrdered_uint32.k1 Hx8 Iq9 K datal2 datap1 first6 mu10 root7 x12 Hx8))
theorem slices_siftDownOrdered_uint32.vc (datap1 : Option Addr) (datal2 : Nat) (datac3 : Nat) (lo4 : Int) (hi5 : Int) (first6 : Int) (H : Hp) (K : Hp → Prop) : vcFun prog tab slices_siftDownOrdered_uint32.ann none Tryz.f113 (List.map AV.v [.slice datap1 datal2 datac3, .int .i64 lo4, .int .i64 hi5, .int .i64 first6]) H (fun v H2 _ => tupV v fun vs => d0 vs (K H2)) = slices_siftDownOrdered_uint32.F datap1 datal2 datac3 lo4 hi5 first6 H K := by kernel_rfl
theorem slices_siftDownOrdered_uint32.of (datap1 : Option Addr) (datal2 : Nat) (datac3 : Nat) (lo4 : Int) (hi5 : Int) (first6 : Int) {H : Hp} {K : Hp → Prop} (h : slices_siftDownOrdered_uint32.F datap1 datal2 datac3 lo4 hi5 first6 H K) : slices_siftDownOrdered_uint32.C datap1 datal2 datac3 lo4 hi5 first6 H K := CallH_of_vc mix tabOk Tryz.func113 (by kernel_rfl) ((slices_siftDownOrdered_uint32.vc datap1 datal2 datac3 lo4 hi5 first6 H K).mpr h)
-- slices.nextPowerOfTwo (114)
def slices_nextPowerOfTwo.ann : Ann := { loops := [], pars := [] }
def slices_nextPowerOfTwo.F (length1 : Int) (H : Hp) (K : Int → Hp → Prop) : Prop :=
  math_bits_Len.C (IntKind.wrap .u64 length1) H fun r2 Hx3 => 0 ≤ r2 ∧ (K (ishl .u64 (1 : Int) r2) Hx3)
theorem slices_nextPowerOfTwo.vc (length1 : Int) (H : Hp) (K : Int → Hp → Prop) : vcFun prog tab slices_nextPowerOfTwo.ann none Tryz.f114 (List.map AV.v [.int .i64 length1]) H (fun v H2 _ => liftI .u64 v fun r6 => K r6 H2) = slices_nextPowerOfTwo.F length1 H K := by kernel_rfl
theorem slices_nextPowerOfTwo.of (length1 : Int) {H : Hp} {K : Int → Hp → Prop} (h : slices_nextPowerOfTwo.F length1 H K) : slices_nextPowerOfTwo.C length1 H K := CallH_of_vc mix tabOk Tryz.func114 (by kernel_rfl) ((slices_nextPowerOfTwo.vc length1 H K).mpr h)
-- (*slices.xorshift).Next (115)
def slices_xorshift_Next.ann : Ann := { loops := [], pars := [] }
def slices_xorshift_Next.F (r1 : Option Addr) (H : Hp) (K : Int → Hp → Prop) : Prop :=
  NIL r1 fun bq2 oq3 => ldI .u64 (rd H bq2 oq3) fun x4 => NIL r1 fun bq5 oq6 => ldI .u64 (rd H bq5 oq6) fun x7 => 0 ≤ (13 : Int) ∧ (NIL r1 fun bq8 oq9 => ST H bq8 oq9 (.int .u64 (ixor .u64 x4 (ishl .u64 x7 (13 : Int)))) fun Hx10 => NIL r1 fun bq11 oq12 => ldI .u64 (rd Hx10 bq11 oq12) fun x13 => NIL r1 fun bq14 oq15 => ldI .u64 (rd Hx10 bq14 oq15) fun x16 => 0 ≤ (7 : Int) ∧ (NIL r1 fun bq17 oq18 => ST Hx10 bq17 oq18 (.int .u64 (ixor .u64 x13 (ishr .u64 x16 (7 : Int)))) fun Hx19 => NIL r1 fun bq20 oq21 => ldI .u64 (rd Hx19 bq20 oq21) fun x22 => NIL r1 fun bq23 oq24 => ldI .u64 (rd Hx19 bq23 oq24) fun x25 => 0 ≤ (17 : Int) ∧ (NIL r1 fun bq26 oq27 => ST Hx19 bq26 oq27 (.int .u64 (ixor .u64 x22 (ishl .u64 x25 (17 : Int)))) fun Hx28 => NIL r1 fun bq29 oq30 => ldI .u64 (rd Hx28 bq29 oq30) fun x31 => K x31 Hx28)))
theorem slices_xorshift_Next.vc (r1 : Option Addr) (H : Hp) (K : Int → Hp → Prop) : vcFun prog tab slices_xorshift_Next.ann none Tryz.f115 (List.map AV.v [.pointer r1]) H (fun v H2 _ => liftI .u64 v fun r33 => K r33 H2) = slices_xorshift_Next.F r1 H K := by kernel_rfl
theorem slices_xorshift_Next.of (r1 : Option Addr) {H : Hp} {K : Int → Hp → Prop} (h : slices_xorshift_Next.F r1 H K) : slices_xorshift_Next.C r1 H K := CallH_of_vc mix tabOk Tryz.func115 (by kernel_rfl) ((slices_xorshift_Next.vc r1 H K).mpr h)
-- slices.medianAdjacentOrdered[uint32] (116)
def slices_medianAdjacentOrdered_uint32.ann : Ann := { loops := [], pars := [] }
def slices_medianAdjacentOrdered_uint32.F (datap1 : Option Addr) (datal2 : Nat) (datac3 : Nat) (a4 : Int) (swaps5 : Option Addr) (H : Hp) (K : Int → Hp → Prop) : Prop :=
  CHK .i64 (a4 - (1 : Int)) fun x6 => CHK .i64 (a4 + (1 : Int)) fun x7 => slices_medianOrdered_uint32.C datap1 datal2 datac3 x6 a4 x7 swaps5 H fun r8 Hx9 => K r8 Hx9
theorem slices_medianAdjacentOrdered_uint32.vc (datap1 : Option Addr) (datal2 : Nat) (datac3 : Nat) (a4 : Int) (swaps5 : Option Addr) (H : Hp) (K : Int → Hp → Prop) : vcFun prog tab slices_medianAdjacentOrdered_uint32.ann none Tryz.f116 (List.map AV.v [.slice datap1 datal2 datac3, .int .i64 a4, .pointer swaps5]) H (fun v H2 _ => liftI .i64 v fun r18 => K r18 H2) = slices_medianAdjacentOrdered_uint32.F datap1 datal2 datac3 a4 swaps5 H K := by kernel_rfl
theorem slices_medianAdjacentOrdered_uint32.of (datap1 : Option Addr) (datal2 : Nat) (datac3 : Nat) (a4 : Int) (swaps5 : Option Addr) {H : Hp} {K : Int → Hp → Prop} (h : slices_medianAdjacentOrdered_uint32.F datap1 datal2 datac3 a4 swaps5 H K) : slices_medianAdjacentOrdered_uint32.C datap1 datal2 datac3 a4 swaps5 H K := CallH_of_vc mix tabOk Tryz.func116 (by kernel_rfl) ((slices_medianAdjacentOrdered_uint32.vc datap1 datal2 datac3 a4 swaps5 H K).mpr h)
-- slices.medianOrdered[uint32] (117)
def slices_medianOrdered_uint32.ann : Ann := { loops := [], pars := [] }
def slices_medianOrdered_uint32.F (datap1 : Option Addr) (datal2 : Nat) (datac3 : Nat) (a4 : Int) (bq5 : Int) (c6 : Int) (swaps7 : Option Addr) (H : Hp) (K : Int → Hp → Prop) : Prop :=
  slices_order2Ordered_uint32.C datap1 datal2 datac3 a4 bq5 swaps7 H fun r8 r9 Hx10 => slices_order2Ordered_uint32.C datap1 datal2 datac3 r9 c6 swaps7 Hx10 fun r17 _ Hx19 => slices_order2Ordered_uint32.C datap1 datal2 datac3 r8 r17 swaps7 Hx19 fun _ r27 Hx28 => K r27 Hx28
theorem slices_medianOrdered_uint32.vc (datap1 : Option Addr) (datal2 : Nat) (datac3 : Nat) (a4 : Int) (bq5 : Int) (c6 : Int) (swaps7 : Option Addr) (H : Hp) (K : Int → Hp → Prop) : vcFun prog tab slices_medianOrdered_uint32.ann none Tryz.f117 (List.map AV.v [.slice datap1 datal2 datac3, .int .i64 a4, .int .i64 bq5, .int .i64 c6, .pointer swaps7]) H (fun v H2 _ => liftI .i64 v fun r36 => K r36 H2) = slices_medianOrdered_uint32.F datap1 datal2 datac3 a4 bq5 c6 swaps7 H K := by kernel_rfl
theorem slices_medianOrdered_uint32.of (datap1 : Option Addr) (datal2 : Nat) (datac3 : Nat) (a4 : Int) (bq5 : Int) (c6 : Int) (swaps7 : Option Addr) {H : Hp} {K : Int → Hp → Prop} (h : slices_medianOrdered_uint32.F datap1 datal2 datac3 a4 bq5 c6 swaps7 H K) : slices_medianOrdered_uint32.C datap1 datal2 datac3 a4 bq5 c6 swaps7 H K := CallH_of_vc mix tabOk Tryz.func117 (by kernel_rfl) ((slices_medianOrdered_uint32.vc datap1 datal2 datac3 a4 bq5 c6 swaps7 H K).mpr h)
-- cmp.isNaN[int] (118)
def cmp_isNaN_int.ann : Ann := { loops := [], pars := [] }
def cmp_isNaN_int.F (x1 : Int) (H : Hp) (K : Bool → Hp → Prop) : Prop :=
  K (decide (¬ x1 = x1)) H
theorem cmp_isNaN_int.vc (x1 : Int) (H : Hp) (K : Bool → Hp → Prop) : vcFun prog tab cmp_isNaN_int.ann none Tryz.f118 (List.map AV.v [.int .i64 x1]) H (fun v H2 _ => liftB v fun r3 => K r3 H2) = cmp_isNaN_int.F x1 H K := by kernel_rfl
theorem cmp_isNaN_int.of (x1 : Int) {H : Hp} {K : Bool → Hp → Prop} (h : cmp_isNaN_int.F x1 H K) : cmp_isNaN_int.C x1 H K := CallH_of_vc mix tabOk Tryz.func118 (by kernel_rfl) ((cmp_isNaN_int.vc x1 H K).mpr h)
-- slices.order2Ordered[uint32] (119)
def slices_order2Ordered_uint32.ann : Ann := { loops := [], pars := [] }
def slices_order2Ordered_uint32.F (datap1 : Option Addr) (datal2 : Nat) (_datac3 : Nat) (a4 : Int) (bq5 : Int) (swaps6 : Option Addr) (H : Hp) (K : Int → Int → Hp → Prop) : Prop :=
  IDX bq5 datal2 fun k7 => NIL datap1 fun bq8 oq9 => ldI .u32 (rd H bq8 (oq9 + k7)) fun x10 => IDX a4 datal2 fun k11 => NIL datap1 fun bq12 oq13 => ldI .u32 (rd H bq12 (oq13 + k11)) fun x14 => cmp_Less_uint32.C x10 x14 H fun r15 Hx16 => bc (r15) (NIL swaps6 fun bq19 oq20 => ldI .i64 (rd Hx16 bq19 oq20) fun x21 => CHK .i64 (x21 + (1 : Int)) fun x22 => NIL swaps6 fun bq23 oq24 => ST Hx16 bq23 oq24 (.int .i64 x22) fun Hx25 => K bq5 a4 Hx25) (K a4 bq5 Hx16)
theorem slices_order2Ordered_uint32.vc (datap1 : Option Addr) (datal2 : Nat) (datac3 : Nat) (a4 : Int) (bq5 : Int) (swaps6 : Option Addr) (H : Hp) (K : Int → Int → Hp → Prop) : vcFun prog tab slices_order2Ordered_uint32.ann none Tryz.f119 (List.map AV.v [.slice datap1 datal2 datac3, .int .i64 a4, .int .i64 bq5, .pointer swaps6]) H (fun v H2 _ => tupV v fun vs => d2 vs fun wv0 wv1 => liftI .i64 wv0 fun r30 => liftI .i64 wv1 fun r31 => K r30 r31 H2) = slices_order2Ordered_uint32.F datap1 datal2 datac3 a4 bq5 swaps6 H K := by kernel_rfl
theorem slices_order2Ordered_uint32.of (datap1 : Option Addr) (datal2 : Nat) (datac3 : Nat) (a4 : Int) (bq5 : Int) (swaps6 : Option Addr) {H : Hp} {K : Int → Int → Hp → Prop} (h : slices_order2Ordered_uint32.F datap1 datal2 datac3 a4 bq5 swaps6 H K) : slices_order2Ordered_uint32.C datap1 datal2 datac3 a4 bq5 swaps6 H K := CallH_of_vc mix tabOk Tryz.func119 (by kernel_rfl) ((slices_order2Ordered_uint32.vc datap1 datal2 datac3 a4 bq5 swaps6 H K).mpr h)
end Go.Proofs.YtbpbgkpkkklipaaGreat
namespace Go.Proofs.YtbpbgkpkkklipaaGreat
open Go.V
/-! ### Sorts: how many bits a number has -/
def lenTab : List UInt8 := [0, 1, 2, 2, 3, 3, 3, 3, 4, 4, 4, 4, 4, 4, 4, 4, 5, 5, 5, 5, 5, 5, 5, 5, 5, 5, 5, 5, 5, 5, 5, 5, 6, 6, 6, 6, 6, 6, 6, 6, 6, 6, 6, 6, 6, 6, 6, 6, 6, 6, 6, 6, 6, 6, 6, 6, 6, 6, 6, 6, 6, 6, 6, 6, 7, 7, 7, 7, 7, 7, 7, 7, 7, 7, 7, 7, 7, 7, 7, 7, 7, 7, 7, 7, 7, 7, 7, 7, 7, 7, 7, 7, 7, 7, 7, 7, 7, 7, 7, 7, 7, 7, 7, 7, 7, 7, 7, 7, 7, 7, 7, 7, 7, 7, 7, 7, 7, 7, 7, 7, 7, 7, 7, 7, 7, 7, 7, 7, 8, 8, 8, 8, 8, 8, 8, 8, 8, 8, 8, 8, 8, 8, 8, 8, 8, 8, 8, 8, 8, 8, 8, 8, 8, 8, 8, 8, 8, 8, 8, 8, 8, 8, 8, 8, 8, 8, 8, 8, 8, 8, 8, 8, 8, 8, 8, 8, 8, 8, 8, 8, 8, 8, 8, 8, 8, 8, 8, 8, 8, 8, 8, 8, 8, 8, 8, 8, 8, 8, 8, 8, 8, 8, 8, 8, 8, 8, 8, 8, 8, 8, 8, 8, 8, 8, 8, 8, 8, 8, 8, 8, 8, 8, 8, 8, 8, 8, 8, 8, 8, 8, 8, 8, 8, 8, 8, 8, 8, 8, 8, 8, 8, 8, 8, 8, 8, 8, 8, 8, 8, 8, 8, 8, 8, 8, 8, 8]
theorem lenTab_all : (List.range 256).all (fun k => decide ((lenTab.getD k 0).toNat = Sort.bitsLen k)) = true := by kernel_rfl
theorem lenTab_at {k : Nat} (h : k < 256) : (lenTab.getD k 0).toNat = Sort.bitsLen k := of_decide_eq_true (List.all_eq_true.1 lenTab_all k (List.mem_range.2 h))
theorem bitsLen_shift {n s : Nat} (h : 2 ^ s ≤ n) : Sort.bitsLen n = Sort.bitsLen (n / 2 ^ s) + s := by
  have hp : 0 < 2 ^ s := Nat.pow_pos (by decide)
  have h1 := Sort.lt_two_pow_bitsLen n
  have h2 := Sort.lt_two_pow_bitsLen (n / 2 ^ s)
  have hs : s ≤ Sort.bitsLen n := by
    rcases Nat.lt_or_ge (Sort.bitsLen n) s with h3 | h3
    · have := (Sort.bitsLen_le_iff n (s - 1)).1 (by omega)
      have h4 : 2 ^ (s - 1) ≤ 2 ^ s := Nat.pow_le_pow_right (by decide) (by omega)
      omega
    · exact h3
  refine Nat.le_antisymm ((Sort.bitsLen_le_iff _ _).2 ?_) ?_
  · rw [Nat.pow_add]
    exact (Nat.div_lt_iff_lt_mul hp).1 h2
  · have : Sort.bitsLen (n / 2 ^ s) ≤ Sort.bitsLen n - s := (Sort.bitsLen_le_iff _ _).2 ((Nat.div_lt_iff_lt_mul hp).2 (by rw [← Nat.pow_add, Nat.sub_add_cancel hs]; exact h1))
    omega
theorem bitsLen_le64 {n : Nat} (h : n < 4294967296) : Sort.bitsLen n ≤ 32 := (Sort.bitsLen_le_iff n 32).2 (by simpa using h)
theorem math_bits_Len64.k3c {n m : Nat} {K : Int → Hp → Prop} {H : Hp} (hn : n < 256) (hm : m ≤ 1000) (hK : K ((m + Sort.bitsLen n : Nat) : Int) H) : math_bits_Len64.k3 K (n : Nat) (m : Nat) H := by
  unfold math_bits_Len64.k3
  have hb := bitsLen_le64 (n := n) (by omega)
  refine idxN n ?_ (show n < (bs lenTab).size from Nat.lt_of_lt_of_eq hn (by kernel_rfl)) ?_
  · rw [show ∀ x : Int, IntKind.wrap .u8 x = x % 256 from fun x => by simp [IntKind.wrap, IntKind.bits, IntKind.signed]]; omega
  show CHK .i64 (((lenTab.getD n 0).toNat : Nat) : Int) _
  rw [lenTab_at hn]
  exact chk (by omega) (chk (by omega) (by rw [← Int.natCast_add]; exact hK))
theorem math_bits_Len64.c {n : Nat} {K : Int → Hp → Prop} {H : Hp} (hn : n < 4294967296) (hK : K ((Sort.bitsLen n : Nat) : Int) H) : math_bits_Len64.C (n : Nat) H K := by
  apply math_bits_Len64.of
  have k2 : ∀ (x m : Nat), x < 65536 → m ≤ 100 → Sort.bitsLen n = m + Sort.bitsLen x → math_bits_Len64.k2 K (x : Nat) (m : Nat) H := by
    intro x m hx hm e
    unfold math_bits_Len64.k2
    refine bcd (fun h => ⟨by decide, chk (by omega) ?_⟩) fun h => math_bits_Len64.k3c (by omega) (by omega) (by rw [← e]; exact hK)
    have := ishr_N x 8 (by decide)
    rw [show ((8 : Nat) : Int) = 8 from rfl] at this
    rw [this, show ((m : Nat) : Int) + 8 = ((m + 8 : Nat) : Int) by omega]
    refine math_bits_Len64.k3c (by omega) (by omega) ?_
    have h8 := bitsLen_shift (n := x) (s := 8) (by omega)
    rw [show m + 8 + Sort.bitsLen (x / 2 ^ 8) = Sort.bitsLen n by omega]; exact hK
  refine bcd (fun h => absurd h (by omega)) fun _ => ?_
  unfold math_bits_Len64.k1
  refine bcd (fun h => ⟨by decide, chk (by omega) ?_⟩) fun h => k2 n 0 (by omega) (by omega) (by omega)
  have := ishr_N n 16 (by decide)
  rw [show ((16 : Nat) : Int) = 16 from rfl] at this
  rw [this]
  have h16 := bitsLen_shift (n := n) (s := 16) (by omega)
  exact k2 (n / 2 ^ 16) 16 (by omega) (by omega) (by omega)
theorem math_bits_Len.c {n : Nat} {K : Int → Hp → Prop} {H : Hp} (hn : n < 4294967296) (hK : K ((Sort.bitsLen n : Nat) : Int) H) : math_bits_Len.C (n : Nat) H K := by
  apply math_bits_Len.of
  exact math_bits_Len64.c hn hK
theorem slices_nextPowerOfTwo.c {n : Nat} {K : Int → Hp → Prop} {H : Hp} (hn : n < 4294967296) (hK : K ((2 ^ Sort.bitsLen n : Nat) : Int) H) : slices_nextPowerOfTwo.C (n : Nat) H K := by
  apply slices_nextPowerOfTwo.of
  unfold slices_nextPowerOfTwo.F
  rw [wrapU n (by omega)]
  refine math_bits_Len.c hn ⟨by omega, ?_⟩
  rw [ishl_1s _ (by have := bitsLen_le64 hn; omega)]; exact hK
theorem slices_xorshift_Next.c {q : Nat} {n : Int} {K : Int → Hp → Prop} {H : Hp} (hq : rd H q 0 = some (.int .u64 n)) (hK : ∀ m H', rd H' q 0 = some (.int .u64 m) → Mod [q] H H' → K m H') : slices_xorshift_Next.C (some ⟨q, 0, none⟩) H K := by
  apply slices_xorshift_Next.of
  refine nil (ldI_i hq (nil (ldI_i hq ⟨by decide, nil (st hq ?_)⟩)))
  have r1 := rd_wr_self (v := .int .u64 (ixor .u64 n (ishl .u64 n 13))) hq
  refine nil (ldI_i r1 (nil (ldI_i r1 ⟨by decide, nil (st r1 ?_)⟩)))
  have r2 := rd_wr_self (v := .int .u64 (ixor .u64 (ixor .u64 n (ishl .u64 n 13)) (ishr .u64 (ixor .u64 n (ishl .u64 n 13)) 7))) r1
  refine nil (ldI_i r2 (nil (ldI_i r2 ⟨by decide, nil (st r2 ?_)⟩)))
  exact nil (ldI_i (rd_wr_self r2) (hK _ _ (rd_wr_self r2) (((Mod.refl.wr (.inl (by simp))).wr (.inl (by simp))).wr (.inl (by simp)))))
end Go.Proofs.YtbpbgkpkkklipaaGreat
namespace Go.Proofs.YtbpbgkpkkklipaaGreat
open Go.V
/-! ### Sorts: numbers -/
abbrev fU (x : Int) : Value := .int .u32 x
theorem cmp_Less_uint32.c {x y : Int} {H : Hp} {K : Bool → Hp → Prop} (hK : K (Sort.ltInt x y) H) : cmp_Less_uint32.C x y H K := by
  apply cmp_Less_uint32.of
  refine cmp_isNaN_uint32.of x ?_
  exact bcd (fun h => absurd rfl h) fun _ => hK
theorem rdU {H : Hp} {p : Option Addr} {l : Nat} {d : Array Int} (h : A1 fU H p l d) (k : Nat) {e : Int} (he : e = (k : Int)) (hk : k < d.size) {F : Int → Prop} (hF : F d[k]!) : IDX e l fun k => NIL p fun b o => ldI .u32 (rd H b (o + k)) F := A1.I (g := fun x => x) h (fun _ => rfl) k he hk hF
theorem swU {H : Hp} {p : Option Addr} {l : Nat} {d : Array Int} (h : A1 fU H p l d) {i j : Nat} {ei ej : Int} (hi : i < d.size) (hj : j < d.size) (hei : ei = (i : Int)) (hej : ej = (j : Int)) {F : Hp → Prop}
    (hF : ∀ H', A1 fU H' p l (Sort.swp d i j) → Mod (blkL p) H H' → F H') : IDX ei l fun k => NIL p fun b o => ST H b (o + k) (.int .u32 d[j]!) fun H1 => IDX ej l fun k => NIL p fun b o => ST H1 b (o + k) (.int .u32 d[i]!) F := A1.sw h (fun _ => rfl) hi hj hei hej hF
section
variable {H : Hp} {p : Option Addr} {l cc : Nat} {d : Array Int}
theorem slices_insertionSortOrdered_uint32.c {a b : Nat} {K : Hp → Prop} (h : A1 fU H p l d) (hab : a ≤ b) (hb : b ≤ d.size) (hl : l ≤ 1000000000)
    (hK : ∀ H' d', A1 fU H' p l d' → Mod (blkL p) H H' → Sort.PermIn a b d d' → Sort.SortedIn Sort.ltInt a b d' → K H') : slices_insertionSortOrdered_uint32.C p l cc (a : Nat) (b : Nat) H K := by
  apply slices_insertionSortOrdered_uint32.of
  have hl0 := h.1
  obtain ⟨hp1, hp2⟩ := Sort.insertionSort_holds (lt := Sort.ltInt) Sort.swo_ltInt d a b hab hb
  refine chk (by omega) ?_
  refine ⟨fun i Hx => ∃ (i' : Nat) (d1 : Array Int), i = (i' : Nat) ∧ a + 1 ≤ i' ∧ (i' ≤ b ∨ i' = a + 1) ∧ d1.size = d.size ∧ A1 fU Hx p l d1 ∧ Mod (blkL p) H Hx ∧ Sort.insOuter Sort.ltInt a b i' d1 = Sort.insertionSort Sort.ltInt d a b, fun i _ => ((b : Int) - i).toNat, ⟨a + 1, d, by omega, by omega, .inr rfl, rfl, h, Mod.refl, rfl⟩, ?_⟩
  rintro i Hx ⟨i, d1, rfl, g1, g2, gs, h1, m1, e1⟩
  refine bcd (fun hlt => ?_) fun hlt => ?_
  · have e2 : Sort.insOuter Sort.ltInt a b (i + 1) (Sort.insInner Sort.ltInt a i d1) = Sort.insertionSort Sort.ltInt d a b := by rw [← e1]; conv => rhs; rw [Sort.insOuter, if_pos (by omega)]
    have go : ∀ (Hy : Hp) (d2 : Array Int), d2.size = d.size → A1 fU Hy p l d2 → Mod (blkL p) H Hy → d2 = Sort.insInner Sort.ltInt a i d1 → CHK .i64 (((i : Nat) : Int) + (1 : Int)) fun x => (∃ (i' : Nat) (d1 : Array Int), x = (i' : Nat) ∧ a + 1 ≤ i' ∧ (i' ≤ b ∨ i' = a + 1) ∧ d1.size = d.size ∧ A1 fU Hy p l d1 ∧ Mod (blkL p) H Hy ∧ Sort.insOuter Sort.ltInt a b i' d1 = Sort.insertionSort Sort.ltInt d a b) ∧ ((b : Int) - x).toNat < ((b : Int) - ((i : Nat) : Int)).toNat := fun Hy d2 s2 h2 m2 e =>
      chk (by omega) ⟨⟨i + 1, d2, by omega, by omega, .inl (by omega), s2, h2, m2, by rw [e]; exact e2⟩, by omega⟩
    refine ⟨fun j Hy => ∃ (j' : Nat) (d2 : Array Int), j = (j' : Nat) ∧ a ≤ j' ∧ j' ≤ i ∧ d2.size = d.size ∧ A1 fU Hy p l d2 ∧ Mod (blkL p) H Hy ∧ Sort.insInner Sort.ltInt a j' d2 = Sort.insInner Sort.ltInt a i d1, fun j _ => j.toNat, ⟨i, d1, rfl, by omega, Nat.le_refl _, gs, h1, m1, rfl⟩, ?_⟩
    rintro j Hy ⟨j, d2, rfl, k1, k2, s2, h2, m2, e3⟩
    refine bcd (fun hj => ?_) fun hj => ?_
    · obtain ⟨w, rfl⟩ : ∃ w, j = w + 1 := ⟨j - 1, by omega⟩
      refine rdU h2 (w + 1) rfl (by omega) (chk (by omega) (rdU h2 w (by omega) (by omega) (cmp_Less_uint32.c ?_)))
      refine bc_i (fun hc => ?_) fun hc => ?_
      · unfold slices_insertionSortOrdered_uint32.k1
        refine chk (by omega) (chk (by omega) (rdU h2 w (by omega) (by omega) (rdU h2 (w + 1) rfl (by omega) (swU h2 (i := w + 1) (j := w) (by omega) (by omega) rfl (by omega) fun H3 h3 m3 => chk (by omega) ⟨⟨w, _, by omega, by omega, by omega, by rw [Sort.swp_size]; exact s2, h3, m2.trans m3, ?_⟩, by first | omega | (dsimp only; omega)⟩))))
        rw [← e3]; conv => rhs; rw [Sort.insInner, if_pos (by rw [hc, Bool.and_true, decide_eq_true_eq]; omega)]
      · refine go Hy d2 s2 h2 m2 ?_
        rw [← e3, Sort.insInner, if_neg (by rw [hc]; simp)]
    · refine go Hy d2 s2 h2 m2 ?_
      rw [← e3]
      have : j = a := by omega
      subst this
      cases j with
      | zero => rfl
      | succ j => rw [Sort.insInner, if_neg (by simp)]
  · have e4 : d1 = Sort.insertionSort Sort.ltInt d a b := by
      rw [← e1, Sort.insOuter, if_neg (by omega)]
    rw [← e4] at hp1 hp2
    exact hK Hx d1 h1 m1 hp1 hp2
theorem slices_siftDownOrdered_uint32.c {lo hi first : Nat} {K : Hp → Prop} (h : A1 fU H p l d) (hf : first + hi ≤ d.size) (hlo : lo ≤ 1000000000) (hl : l ≤ 1000000000)
    (hK : ∀ H', A1 fU H' p l (Sort.siftDown Sort.ltInt hi first lo d) → Mod (blkL p) H H' → (Sort.siftDown Sort.ltInt hi first lo d).size = d.size → K H') : slices_siftDownOrdered_uint32.C p l cc (lo : Nat) (hi : Nat) (first : Nat) H K := by
  apply slices_siftDownOrdered_uint32.of
  have hl0 := h.1
  refine ⟨fun r Hx => ∃ (r' : Nat) (d1 : Array Int), r = (r' : Nat) ∧ r' ≤ 1000000000 ∧ d1.size = d.size ∧ A1 fU Hx p l d1 ∧ Mod (blkL p) H Hx ∧ Sort.siftDown Sort.ltInt hi first r' d1 = Sort.siftDown Sort.ltInt hi first lo d, fun r _ => ((hi : Int) - r).toNat, ⟨lo, d, rfl, hlo, rfl, h, Mod.refl, rfl⟩, ?_⟩
  rintro r Hx ⟨r, d1, rfl, g1, gs, h1, m1, e1⟩
  have fin : ∀ Hy, Sort.siftDown Sort.ltInt hi first r d1 = d1 → A1 fU Hy p l d1 → Mod (blkL p) H Hy → K Hy := fun Hy e hA hM => hK Hy (by rw [← e1, e]; exact hA) hM (by rw [← e1, e]; exact gs)
  refine chk (by omega) (chk (by omega) (bcd (fun hge => fin Hx (by rw [Sort.siftDown, dif_pos (by omega)]) h1 m1) fun hlt => ?_))
  have go : ∀ (ch : Nat) (Hy : Hp), Hy = Hx → (ch = 2 * r + 1 ∨ ch = 2 * r + 2) → ch < hi → (Sort.ltInt d1[first + r]! d1[first + ch]! = false → Sort.siftDown Sort.ltInt hi first r d1 = d1) → (Sort.ltInt d1[first + r]! d1[first + ch]! = true → Sort.siftDown Sort.ltInt hi first r d1 = Sort.siftDown Sort.ltInt hi first ch (Sort.swp d1 (first + r) (first + ch))) →
      slices_siftDownOrdered_uint32.k1 Hx (fun r Hx => ∃ (r' : Nat) (d1 : Array Int), r = (r' : Nat) ∧ r' ≤ 1000000000 ∧ d1.size = d.size ∧ A1 fU Hx p l d1 ∧ Mod (blkL p) H Hx ∧ Sort.siftDown Sort.ltInt hi first r' d1 = Sort.siftDown Sort.ltInt hi first lo d) K l p (first : Nat) (fun r _ => ((hi : Int) - r).toNat) (r : Nat) (ch : Nat) Hy := by
    intro ch Hy hHy hch hchi hs hn
    subst hHy
    unfold slices_siftDownOrdered_uint32.k1
    refine chk (by omega) (rdU h1 (first + r) (by omega) (by omega) (chk (by omega) (rdU h1 (first + ch) (by omega) (by omega) (cmp_Less_uint32.c ?_))))
    refine bcn (fun hc => fin _ (hs hc) h1 m1) fun hc => ?_
    refine chk (by omega) (chk (by omega) (chk (by omega) (rdU h1 (first + ch) (by omega) (by omega) (chk (by omega) (rdU h1 (first + r) (by omega) (by omega) (swU h1 (i := first + r) (j := first + ch) (by omega) (by omega) (by omega) (by omega) fun H3 h3 m3 => ?_))))))
    exact ⟨⟨ch, _, rfl, by omega, by rw [Sort.swp_size]; exact gs, h3, m1.trans m3, by rw [← e1, hn hc]⟩, by first | omega | (dsimp only; omega)⟩
  have e0 : 2 * ((r : Nat) : Int) + 1 = ((2 * r + 1 : Nat) : Int) := by omega
  rw [e0] at hlt ⊢
  have h21 : 2 * r + 1 < hi := by omega
  have lft : ¬ (decide (2 * r + 1 + 1 < hi) && Sort.ltInt d1[first + (2 * r + 1)]! d1[first + (2 * r + 1) + 1]!) = true → ∀ Hy, Hy = Hx → slices_siftDownOrdered_uint32.k1 Hx (fun r Hx => ∃ (r' : Nat) (d1 : Array Int), r = (r' : Nat) ∧ r' ≤ 1000000000 ∧ d1.size = d.size ∧ A1 fU Hx p l d1 ∧ Mod (blkL p) H Hx ∧ Sort.siftDown Sort.ltInt hi first r' d1 = Sort.siftDown Sort.ltInt hi first lo d) K l p (first : Nat) (fun r _ => ((hi : Int) - r).toNat) (r : Nat) ((2 * r + 1 : Nat) : Int) Hy := fun hno Hy hHy => by
    refine go (2 * r + 1) Hy hHy (.inl rfl) h21 (fun hc => ?_) fun hc => ?_
    · rw [Sort.siftDown, dif_neg (by omega), if_neg hno, if_pos (by rw [hc]; rfl)]
    · rw [Sort.siftDown, dif_neg (by omega), if_neg hno, if_neg (by rw [hc]; decide)]
  refine chk (by omega) (bcd (fun hlt2 => ?_) fun hlt2 => lft (by rw [decide_eq_false (by omega)]; simp) Hx rfl)
  refine chk (by omega) (rdU h1 (first + (2 * r + 1)) (by omega) (by omega) (chk (by omega) (chk (by omega) (rdU h1 (first + (2 * r + 1) + 1) (by omega) (by omega) (cmp_Less_uint32.c ?_)))))
  refine bc_i (fun hc => ?_) fun hc => lft (by rw [hc, Bool.and_false]; decide) Hx rfl
  refine chk (by omega) ?_
  rw [show ((2 * r + 1 : Nat) : Int) + 1 = ((2 * r + 2 : Nat) : Int) by omega]
  refine go (2 * r + 2) Hx rfl (.inr rfl) (by omega) (fun hc2 => ?_) fun hc2 => ?_
  · rw [Sort.siftDown, dif_neg (by omega), if_pos (by rw [hc, Bool.and_true, decide_eq_true_eq]; omega), if_pos (by rw [hc2]; rfl)]
  · rw [Sort.siftDown, dif_neg (by omega), if_pos (by rw [hc, Bool.and_true, decide_eq_true_eq]; omega), if_neg (by rw [hc2]; decide), dif_pos (by omega)]
theorem slices_heapSortOrdered_uint32.c {a b : Nat} {K : Hp → Prop} (h : A1 fU H p l d) (hab : a ≤ b) (hb : b ≤ d.size) (hl : l ≤ 1000000000)
    (hK : ∀ H' d', A1 fU H' p l d' → Mod (blkL p) H H' → Sort.PermIn a b d d' → Sort.SortedIn Sort.ltInt a b d' → K H') : slices_heapSortOrdered_uint32.C p l cc (a : Nat) (b : Nat) H K := by
  apply slices_heapSortOrdered_uint32.of
  have hl0 := h.1
  obtain ⟨hp1, hp2⟩ := Sort.heapSort_holds (lt := Sort.ltInt) Sort.swo_ltInt d a b hab hb
  refine chk (by omega) (chk (by omega) ⟨by decide, ?_⟩)
  have eb : ((b : Nat) : Int) - ((a : Nat) : Int) = ((b - a : Nat) : Int) := by omega
  rw [eb]
  have et : Int.tdiv (((b - a : Nat) : Int) - 1) 2 = (((b - a - 1) / 2 : Nat) : Int) := by
    by_cases h0 : b - a = 0
    · rw [h0]; decide
    · rw [show ((b - a : Nat) : Int) - 1 = ((b - a - 1 : Nat) : Int) by omega]; exact tdivN _ 2
  rw [et]
  refine chk (by omega) ?_
  refine ⟨fun i Hx => ∃ (k : Nat) (d1 : Array Int), i = (k : Int) - 1 ∧ k ≤ (b - a - 1) / 2 + 1 ∧ d1.size = d.size ∧ A1 fU Hx p l d1 ∧ Mod (blkL p) H Hx ∧ Sort.heapBuild Sort.ltInt (b - a) a k d1 = Sort.heapBuild Sort.ltInt (b - a) a ((b - a - 1) / 2 + 1) d, fun i _ => (i + 1).toNat, ⟨(b - a - 1) / 2 + 1, d, by omega, Nat.le_refl _, rfl, h, Mod.refl, rfl⟩, ?_⟩
  rintro i Hx ⟨k, d1, rfl, g1, gs, h1, m1, e1⟩
  refine bcd (fun hge => ?_) fun hge => ?_
  · obtain ⟨w, rfl⟩ : ∃ w, k = w + 1 := ⟨k - 1, by omega⟩
    rw [show ((w + 1 : Nat) : Int) - 1 = (w : Nat) by omega]
    refine slices_siftDownOrdered_uint32.c h1 (by omega) (by omega) hl fun H2 h2 m2 s2 => chk (by omega) ⟨⟨w, _, rfl, by omega, by rw [s2]; exact gs, h2, m1.trans m2, ?_⟩, by first | omega | (dsimp only; omega)⟩
    rw [← e1, Sort.heapBuild]
  · have : k = 0 := by omega
    subst this
    have ed : d1 = Sort.heapBuild Sort.ltInt (b - a) a ((b - a - 1) / 2 + 1) d := by rw [← e1]; rfl
    refine chk (by omega) ?_
    refine ⟨fun i Hy => ∃ (k : Nat) (d2 : Array Int), i = (k : Int) - 1 ∧ k ≤ b - a ∧ d2.size = d.size ∧ A1 fU Hy p l d2 ∧ Mod (blkL p) H Hy ∧ Sort.heapPop Sort.ltInt a k d2 = Sort.heapPop Sort.ltInt a (b - a) d1, fun i _ => (i + 1).toNat, ⟨b - a, d1, rfl, Nat.le_refl _, gs, h1, m1, rfl⟩, ?_⟩
    rintro i Hy ⟨k, d2, rfl, g2, s2, h2, m2, e2⟩
    refine bcd (fun hge => ?_) fun hge => ?_
    · obtain ⟨w, rfl⟩ : ∃ w, k = w + 1 := ⟨k - 1, by omega⟩
      rw [show ((w + 1 : Nat) : Int) - 1 = (w : Nat) by omega]
      refine chk (by omega) (chk (by omega) (rdU h2 (a + w) (by omega) (by omega) (rdU h2 a rfl (by omega) (swU h2 (i := a) (j := a + w) (by omega) (by omega) rfl (by omega) fun H3 h3 m3 => ?_))))
      refine slices_siftDownOrdered_uint32.c (lo := 0) h3 (by rw [Sort.swp_size]; omega) (by omega) hl fun H4 h4 m4 s4 => chk (by omega) ⟨⟨w, _, rfl, by omega, by rw [s4, Sort.swp_size]; exact s2, h4, (m2.trans m3).trans m4, ?_⟩, by first | omega | (dsimp only; omega)⟩
      rw [← e2, Sort.heapPop]
    · have : k = 0 := by omega
      subst this
      have e4 : d2 = Sort.heapSort Sort.ltInt d a b := by
        unfold Sort.heapSort
        rw [← ed, ← e2]; rfl
      rw [← e4] at hp1 hp2
      exact hK Hy d2 h2 m2 hp1 hp2
theorem slices_reverseRangeOrdered_uint32.c {a b : Nat} {K : Hp → Prop} (h : A1 fU H p l d) (hab : a < b) (hb : b ≤ d.size) (hl : l ≤ 1000000000)
    (hK : ∀ H' d', A1 fU H' p l d' → Mod (blkL p) H H' → Sort.PermIn a b d d' → K H') : slices_reverseRangeOrdered_uint32.C p l cc (a : Nat) (b : Nat) H K := by
  apply slices_reverseRangeOrdered_uint32.of
  have hl0 := h.1
  have hp1 := Sort.reverseRange_holds d a b (by omega) hb
  refine chk (by omega) ?_
  refine ⟨fun i j Hx => ∃ (i' j' : Nat) (d1 : Array Int), i = (i' : Nat) ∧ j = (j' : Nat) ∧ a ≤ i' ∧ i' ≤ j' + 1 ∧ j' < b ∧ d1.size = d.size ∧ A1 fU Hx p l d1 ∧ Mod (blkL p) H Hx ∧ Sort.reverseLoop i' j' d1 = Sort.reverseRange d a b, fun i j _ => (j - i).toNat, ⟨a, b - 1, d, rfl, by omega, Nat.le_refl _, by omega, by omega, rfl, h, Mod.refl, rfl⟩, ?_⟩
  rintro i j Hx ⟨i, j, d1, rfl, rfl, g1, g2, g3, gs, h1, m1, e1⟩
  refine bcd (fun hlt => ?_) fun hlt => ?_
  · refine rdU h1 j rfl (by omega) (rdU h1 i rfl (by omega) (swU h1 (i := i) (j := j) (by omega) (by omega) rfl rfl fun H3 h3 m3 => chk (by omega) (chk (by omega) ⟨⟨i + 1, j - 1, _, by omega, by omega, by omega, by omega, by omega, by rw [Sort.swp_size]; exact gs, h3, m1.trans m3, ?_⟩, by first | omega | (dsimp only; omega)⟩)))
    rw [← e1]; conv => rhs; rw [Sort.reverseLoop, if_pos (by omega)]
  · have : d1 = Sort.reverseRange d a b := by rw [← e1, Sort.reverseLoop, if_neg (by omega)]
    rw [← this] at hp1
    exact hK Hx d1 h1 m1 hp1
theorem slices_order2Ordered_uint32.c {q N a b : Nat} {K : Int → Int → Hp → Prop} (h : A1 fU H p l d) (ha : a < d.size) (hb : b < d.size) (hq : SwQ H q N) (hN : N ≤ 1000)
    (hK : ∀ x y H', (x = a ∧ y = b ∨ x = b ∧ y = a) → SwQ H' q (N + 1) → Mod [q] H H' → K (x : Nat) (y : Nat) H') : slices_order2Ordered_uint32.C p l cc (a : Nat) (b : Nat) (some ⟨q, 0, none⟩) H K := by
  apply slices_order2Ordered_uint32.of
  have hl0 := h.1
  obtain ⟨n, q1, q2, q3⟩ := hq
  refine rdU h b rfl hb (rdU h a rfl ha (cmp_Less_uint32.c ?_))
  refine bc_i (fun _ => ?_) fun _ => hK a b H (.inl ⟨rfl, rfl⟩) ⟨n, q1, q2, by omega⟩ Mod.refl
  refine nil (ldI_i q1 (chk (by omega) (nil (st q1 (hK b a _ (.inr ⟨rfl, rfl⟩) ⟨n + 1, rd_wr_self q1, by omega, by omega⟩ (Mod.refl.wr (.inl (by simp))))))))
theorem slices_medianOrdered_uint32.c {q N a b e : Nat} {K : Int → Hp → Prop} (h : A1 fU H p l d) (ha : a < d.size) (hb : b < d.size) (he : e < d.size) (hq : SwQ H q N) (hN : N ≤ 900) (hqp : q ∉ blkL p)
    (hK : ∀ x H', (x = a ∨ x = b ∨ x = e) → SwQ H' q (N + 3) → Mod [q] H H' → K (x : Nat) H') : slices_medianOrdered_uint32.C p l cc (a : Nat) (b : Nat) (e : Nat) (some ⟨q, 0, none⟩) H K := by
  apply slices_medianOrdered_uint32.of
  have hn : ∀ b ∈ blkL p, b ∉ [q] := fun b hb hb' => by simp at hb'; subst hb'; exact hqp hb
  refine slices_order2Ordered_uint32.c h ha hb hq (by omega) fun x y H1 hxy q1 m1 => ?_
  have h1 := A1.mod h m1 hn
  refine slices_order2Ordered_uint32.c h1 (by omega) he q1 (by omega) fun x2 y2 H2 hxy2 q2 m2 => ?_
  have h2 := A1.mod h1 m2 hn
  refine slices_order2Ordered_uint32.c h2 (by omega) (by omega) q2 (by omega) fun x3 y3 H3 hxy3 q3 m3 => ?_
  exact hK y3 H3 (by omega) q3 ((m1.trans m2).trans m3)
theorem slices_medianAdjacentOrdered_uint32.c {q N a : Nat} {K : Int → Hp → Prop} (h : A1 fU H p l d) (h0 : 0 < a) (ha : a + 1 < d.size) (hl : l ≤ 1000000000) (hq : SwQ H q N) (hN : N ≤ 900) (hqp : q ∉ blkL p)
    (hK : ∀ x H', (x = a - 1 ∨ x = a ∨ x = a + 1) → SwQ H' q (N + 3) → Mod [q] H H' → K (x : Nat) H') : slices_medianAdjacentOrdered_uint32.C p l cc (a : Nat) (some ⟨q, 0, none⟩) H K := by
  apply slices_medianAdjacentOrdered_uint32.of
  have hl0 := h.1
  refine chk (by omega) (chk (by omega) ?_)
  rw [show ((a : Nat) : Int) - 1 = ((a - 1 : Nat) : Int) by omega, show ((a : Nat) : Int) + 1 = ((a + 1 : Nat) : Int) by omega]
  exact slices_medianOrdered_uint32.c h (by omega) (by omega) ha hq hN hqp hK
theorem slices_choosePivotOrdered_uint32.c {a b : Nat} {K : Int → Int → Hp → Prop} (h : A1 fU H p l d) (hab : a < b) (hb : b ≤ d.size) (hl : l ≤ 1000000000)
    (hK : ∀ (x : Nat) t H', a ≤ x → x < b → Le H H' → K (x : Nat) t H') : slices_choosePivotOrdered_uint32.C p l cc (a : Nat) (b : Nat) H K := by
  apply slices_choosePivotOrdered_uint32.of
  have hl0 := h.1
  refine chk (by omega) fun q hq => ?_
  have le1 : Le H (upd H q [.int .i64 (0 : Int)]) := Le.upd hq
  have q1 : SwQ (upd H q [.int .i64 (0 : Int)]) q 0 := ⟨0, by rw [rd_upd_self]; rfl, by omega, by omega⟩
  have h1 := A1.le h le1
  have hqp : q ∉ blkL p := fun hx => by
    obtain ⟨b', o', e, hh⟩ := A1.at h (k := 0) (by omega)
    rw [e] at hx
    simp [blkL] at hx
    subst hx
    exact A1.there h (by omega) (by rw [e]; simp [blkL]) hq
  have hn : ∀ b ∈ blkL p, b ∉ [q] := fun b hb hb' => by simp at hb'; subst hb'; exact hqp hb
  generalize upd H q [.int .i64 (0 : Int)] = H1 at *
  rw [show ((b : Nat) : Int) - ((a : Nat) : Int) = ((b - a : Nat) : Int) by omega, show (4 : Int) = ((4 : Nat) : Int) from rfl, tdivN]
  have fin : ∀ (x : Nat) (H2 : Hp), a ≤ x → x < b → Mod [q] H1 H2 → (∃ N, SwQ H2 q N) → slices_choosePivotOrdered_uint32.k1 K q (x : Nat) H2 := fun x H2 hx1 hx2 m2 ⟨N, n, r, _⟩ => by
    have le2 : Le H H2 := m2.le le1 (by simpa using hq)
    unfold slices_choosePivotOrdered_uint32.k1
    exact ldI_i r (bcd (fun _ => hK x 1 H2 hx1 hx2 le2) fun _ => bcd (fun _ => hK x 2 H2 hx1 hx2 le2) fun _ => hK x 0 H2 hx1 hx2 le2)
  have e1 : ((a : Nat) : Int) + (((b - a) / 4 : Nat) : Int) * 1 = ((a + (b - a) / 4 : Nat) : Int) := by omega
  have e2 : ((a : Nat) : Int) + (((b - a) / 4 : Nat) : Int) * 2 = ((a + (b - a) / 4 * 2 : Nat) : Int) := by omega
  have e3 : ((a : Nat) : Int) + (((b - a) / 4 : Nat) : Int) * 3 = ((a + (b - a) / 4 * 3 : Nat) : Int) := by omega
  refine ⟨by decide, chk (by omega) (chk (by omega) (chk (by omega) ⟨by decide, chk (by omega) (chk (by omega) (chk (by omega) ⟨by decide, chk (by omega) (chk (by omega) (chk (by omega) ?_))⟩))⟩))⟩
  rw [e1, e2, e3]
  refine bcd (fun h8 => bcd (fun h50 => ?_) fun h50 => ?_) fun h8 => fin _ _ (by omega) (by omega) Mod.refl ⟨0, q1⟩
  · refine slices_medianAdjacentOrdered_uint32.c h1 (by omega) (by omega) hl q1 (by omega) hqp fun x1 H2 hx1 q2 m2 => ?_
    have h2 := A1.mod h1 m2 hn
    refine slices_medianAdjacentOrdered_uint32.c h2 (by omega) (by omega) hl q2 (by omega) hqp fun x2 H3 hx2 q3 m3 => ?_
    have h3 := A1.mod h2 m3 hn
    refine slices_medianAdjacentOrdered_uint32.c h3 (by omega) (by omega) hl q3 (by omega) hqp fun x3 H4 hx3 q4 m4 => ?_
    have h4 := A1.mod h3 m4 hn
    refine slices_medianOrdered_uint32.c h4 (by omega) (by omega) (by omega) q4 (by omega) hqp fun x4 H5 hx4 q5 m5 => ?_
    exact fin x4 H5 (by omega) (by omega) (((m2.trans m3).trans m4).trans m5) ⟨_, q5⟩
  · refine slices_medianOrdered_uint32.c h1 (by omega) (by omega) (by omega) q1 (by omega) hqp fun x1 H2 hx1 q2 m2 => ?_
    exact fin x1 H2 (by omega) (by omega) m2 ⟨_, q2⟩
end
section
variable {H : Hp} {p : Option Addr} {l cc : Nat} {d : Array Int}
theorem slices_partitionOrdered_uint32.c {a b pv : Nat} {K : Int → Bool → Hp → Prop} (h : A1 fU H p l d) (hp1 : a ≤ pv) (hp2 : pv < b) (hb : b ≤ d.size) (hl : l ≤ 1000000000)
    (hK : ∀ H', A1 fU H' p l (Sort.partition Sort.ltInt d a b pv).2.2 → Mod (blkL p) H H' → K ((Sort.partition Sort.ltInt d a b pv).1 : Nat) (Sort.partition Sort.ltInt d a b pv).2.1 H') : slices_partitionOrdered_uint32.C p l cc (a : Nat) (b : Nat) (pv : Nat) H K := by
  apply slices_partitionOrdered_uint32.of
  have hl0 := h.1
  refine rdU h pv rfl (by omega) (rdU h a rfl (by omega) (swU h (i := a) (j := pv) (by omega) (by omega) rfl rfl fun H1 h1 m1 => chk (by omega) (chk (by omega) ?_)))
  obtain ⟨d1, hd1⟩ : ∃ d1, d1 = Sort.swp d a pv := ⟨_, rfl⟩
  rw [← hd1] at h1
  have s1 : d1.size = d.size := by rw [hd1, Sort.swp_size]
  have hres : Sort.partition Sort.ltInt d a b pv = (if Sort.scanUp (fun x => Sort.ltInt x d1[a]!) d1 (b - 1) (a + 1) > Sort.scanDown (fun x => !Sort.ltInt x d1[a]!) d1 (Sort.scanUp (fun x => Sort.ltInt x d1[a]!) d1 (b - 1) (a + 1)) (b - 1) then (Sort.scanDown (fun x => !Sort.ltInt x d1[a]!) d1 (Sort.scanUp (fun x => Sort.ltInt x d1[a]!) d1 (b - 1) (a + 1)) (b - 1), true, Sort.swp d1 (Sort.scanDown (fun x => !Sort.ltInt x d1[a]!) d1 (Sort.scanUp (fun x => Sort.ltInt x d1[a]!) d1 (b - 1) (a + 1)) (b - 1)) a) else
      ((Sort.partLoop Sort.ltInt a (Sort.scanUp (fun x => Sort.ltInt x d1[a]!) d1 (b - 1) (a + 1) + 1) (Sort.scanDown (fun x => !Sort.ltInt x d1[a]!) d1 (Sort.scanUp (fun x => Sort.ltInt x d1[a]!) d1 (b - 1) (a + 1)) (b - 1) - 1) (Sort.swp d1 (Sort.scanUp (fun x => Sort.ltInt x d1[a]!) d1 (b - 1) (a + 1)) (Sort.scanDown (fun x => !Sort.ltInt x d1[a]!) d1 (Sort.scanUp (fun x => Sort.ltInt x d1[a]!) d1 (b - 1) (a + 1)) (b - 1)))).1, false, Sort.swp (Sort.partLoop Sort.ltInt a (Sort.scanUp (fun x => Sort.ltInt x d1[a]!) d1 (b - 1) (a + 1) + 1) (Sort.scanDown (fun x => !Sort.ltInt x d1[a]!) d1 (Sort.scanUp (fun x => Sort.ltInt x d1[a]!) d1 (b - 1) (a + 1)) (b - 1) - 1) (Sort.swp d1 (Sort.scanUp (fun x => Sort.ltInt x d1[a]!) d1 (b - 1) (a + 1)) (Sort.scanDown (fun x => !Sort.ltInt x d1[a]!) d1 (Sort.scanUp (fun x => Sort.ltInt x d1[a]!) d1 (b - 1) (a + 1)) (b - 1)))).2 (Sort.partLoop Sort.ltInt a (Sort.scanUp (fun x => Sort.ltInt x d1[a]!) d1 (b - 1) (a + 1) + 1) (Sort.scanDown (fun x => !Sort.ltInt x d1[a]!) d1 (Sort.scanUp (fun x => Sort.ltInt x d1[a]!) d1 (b - 1) (a + 1)) (b - 1) - 1) (Sort.swp d1 (Sort.scanUp (fun x => Sort.ltInt x d1[a]!) d1 (b - 1) (a + 1)) (Sort.scanDown (fun x => !Sort.ltInt x d1[a]!) d1 (Sort.scanUp (fun x => Sort.ltInt x d1[a]!) d1 (b - 1) (a + 1)) (b - 1)))).1 a)) := by
    subst hd1; rfl
  generalize Sort.partition Sort.ltInt d a b pv = PR at *
  have g0 := Sort.scanUp_ge (fun x => Sort.ltInt x d1[a]!) d1 (b - 1) (a + 1)
  obtain ⟨i0, hi0⟩ : ∃ i0, i0 = Sort.scanUp (fun x => Sort.ltInt x d1[a]!) d1 (b - 1) (a + 1) := ⟨_, rfl⟩
  rw [← hi0] at hres g0
  obtain ⟨j0, hj0⟩ : ∃ j0, j0 = Sort.scanDown (fun x => !Sort.ltInt x d1[a]!) d1 i0 (b - 1) := ⟨_, rfl⟩
  rw [← hj0] at hres
  -- behind the first two loops
  have k2 : ∀ Hy, Hy = H1 → i0 ≤ j0 + 1 → j0 < b → a ≤ j0 → slices_partitionOrdered_uint32.k2 K (a : Nat) l p (i0 : Nat) (j0 : Nat) Hy := by
    rintro Hy rfl q1 q2 q3
    unfold slices_partitionOrdered_uint32.k2
    refine bcd (fun hlt => ?_) fun hlt => ?_
    · refine rdU h1 a rfl (by omega) (rdU h1 j0 rfl (by omega) (swU h1 (i := j0) (j := a) (by omega) (by omega) rfl rfl fun H2 h2 m2 => ?_))
      rw [if_pos (by omega)] at hres
      rw [hres] at hK
      exact hK H2 h2 (m1.trans m2)
    · rw [if_neg (by omega)] at hres
      refine rdU h1 j0 rfl (by omega) (rdU h1 i0 rfl (by omega) (swU h1 (i := i0) (j := j0) (by omega) (by omega) rfl rfl fun H2 h2 m2 => chk (by omega) (chk (by omega) ?_)))
      generalize hR : Sort.partLoop Sort.ltInt a (i0 + 1) (j0 - 1) (Sort.swp d1 i0 j0) = R at hres
      refine ⟨fun i j Hx => ∃ (i' j' : Nat) (d2 : Array Int), i = (i' : Nat) ∧ j = (j' : Nat) ∧ a + 1 ≤ i' ∧ i' ≤ b + 1 ∧ a ≤ j' ∧ j' < b ∧ d2.size = d.size ∧ A1 fU Hx p l d2 ∧ Mod (blkL p) H Hx ∧ Sort.partLoop Sort.ltInt a i' j' d2 = R, fun i j _ => (j + 2 - i).toNat, ⟨i0 + 1, j0 - 1, _, by omega, by omega, by omega, by omega, by omega, by omega, by rw [Sort.swp_size]; exact s1, h2, m1.trans m2, hR⟩, ?_⟩
      rintro i j Hx ⟨i, j, d2, rfl, rfl, w1, w2, w3, w4, s2, h2x, m2x, eR⟩
      rw [Sort.partLoop_eq] at eR
      have gi := Sort.scanUp_ge (fun x => Sort.ltInt x d2[a]!) d2 j i
      obtain ⟨i1, hi1⟩ : ∃ i1, i1 = Sort.scanUp (fun x => Sort.ltInt x d2[a]!) d2 j i := ⟨_, rfl⟩
      rw [← hi1] at eR gi
      obtain ⟨j1, hj1⟩ : ∃ j1, j1 = Sort.scanDown (fun x => !Sort.ltInt x d2[a]!) d2 i1 j := ⟨_, rfl⟩
      have gj := Sort.scanDown_le (fun x => !Sort.ltInt x d2[a]!) d2 i1 j
      rw [← hj1] at eR gj
      have k4 : ∀ Hz, Hz = Hx → i1 ≤ b + 1 → a ≤ j1 → slices_partitionOrdered_uint32.k4 Hx (fun i j Hx => ∃ (i' j' : Nat) (d2 : Array Int), i = (i' : Nat) ∧ j = (j' : Nat) ∧ a + 1 ≤ i' ∧ i' ≤ b + 1 ∧ a ≤ j' ∧ j' < b ∧ d2.size = d.size ∧ A1 fU Hx p l d2 ∧ Mod (blkL p) H Hx ∧ Sort.partLoop Sort.ltInt a i' j' d2 = R) K (a : Nat) l p (i : Nat) (i1 : Nat) (j : Nat) (fun i j _ => (j + 2 - i).toNat) (j1 : Nat) Hz := by
        rintro Hz rfl v1 v2
        unfold slices_partitionOrdered_uint32.k4 slices_partitionOrdered_uint32.k5
        refine bcd (fun hlt => ?_) fun hlt => ?_
        · rw [if_pos (by omega)] at eR
          refine rdU h2x a rfl (by omega) (rdU h2x j1 rfl (by omega) (swU h2x (i := j1) (j := a) (by omega) (by omega) rfl rfl fun H3 h3 m3 => ?_))
          rw [hres, ← eR] at hK
          exact hK H3 h3 (m2x.trans m3)
        · rw [if_neg (by omega)] at eR
          exact rdU h2x j1 rfl (by omega) (rdU h2x i1 rfl (by omega) (swU h2x (i := i1) (j := j1) (by omega) (by omega) rfl rfl fun H3 h3 m3 => chk (by omega) (chk (by omega) ⟨⟨i1 + 1, j1 - 1, _, by omega, by omega, by omega, by omega, by omega, by omega, by rw [Sort.swp_size]; exact s2, h3, m2x.trans m3, eR⟩, by first | omega | (dsimp only; omega)⟩)))
      have k3 : ∀ Hz, Hz = Hx → i1 ≤ b + 1 → slices_partitionOrdered_uint32.k3 Hx (fun i j Hx => ∃ (i' j' : Nat) (d2 : Array Int), i = (i' : Nat) ∧ j = (j' : Nat) ∧ a + 1 ≤ i' ∧ i' ≤ b + 1 ∧ a ≤ j' ∧ j' < b ∧ d2.size = d.size ∧ A1 fU Hx p l d2 ∧ Mod (blkL p) H Hx ∧ Sort.partLoop Sort.ltInt a i' j' d2 = R) K (a : Nat) l p (i : Nat) (j : Nat) (fun i j _ => (j + 2 - i).toNat) (i1 : Nat) Hz := by
        rintro Hz rfl v1
        unfold slices_partitionOrdered_uint32.k3
        refine ⟨fun t Hw => ∃ t' : Nat, t = (t' : Nat) ∧ a ≤ t' ∧ t' < b ∧ Hw = Hz ∧ Sort.scanDown (fun x => !Sort.ltInt x d2[a]!) d2 i1 t' = j1, fun t _ => t.toNat, ⟨j, rfl, w3, w4, rfl, hj1.symm⟩, ?_⟩
        rintro t Hw ⟨t, rfl, u1, u2, rfl, u3⟩
        refine bcd (fun hle => ?_) fun hle => ?_
        · obtain ⟨w, rfl⟩ : ∃ w, t = w + 1 := ⟨t - 1, by omega⟩
          refine rdU h2x (w + 1) rfl (by omega) (rdU h2x a rfl (by omega) (cmp_Less_uint32.c ?_))
          refine bcn (fun hc => ?_) fun hc => ?_
          · refine chk (by omega) ⟨⟨w, by omega, by omega, by omega, by trivial, ?_⟩, by first | omega | (dsimp only; omega)⟩
            rw [← u3]; conv => rhs; rw [Sort.scanDown, if_pos (by rw [hc]; simp; omega)]
          · have : j1 = w + 1 := by rw [← u3, Sort.scanDown, if_neg (by rw [hc]; simp)]
            rw [← this]; exact k4 _ rfl v1 (by omega)
        · have : j1 = t := by
            rw [← u3]
            cases t with
            | zero => rfl
            | succ t => rw [Sort.scanDown, if_neg (by simp; omega)]
          rw [← this]; exact k4 _ rfl v1 (by omega)
      refine ⟨fun t Hw => ∃ t' : Nat, t = (t' : Nat) ∧ a + 1 ≤ t' ∧ t' ≤ b + 1 ∧ Hw = Hx ∧ Sort.scanUp (fun x => Sort.ltInt x d2[a]!) d2 j t' = i1, fun t _ => ((b : Int) + 1 - t).toNat, ⟨i, rfl, w1, w2, rfl, hi1.symm⟩, ?_⟩
      rintro t Hw ⟨t, rfl, u1, u2, rfl, u3⟩
      refine bcd (fun hle => ?_) fun hle => ?_
      · refine rdU h2x t rfl (by omega) (rdU h2x a rfl (by omega) (cmp_Less_uint32.c ?_))
        refine bc_i (fun hc => ?_) fun hc => ?_
        · refine chk (by omega) ⟨⟨t + 1, by omega, by omega, by omega, by trivial, ?_⟩, by first | omega | (dsimp only; omega)⟩
          rw [← u3]; conv => rhs; rw [Sort.scanUp, if_pos (by rw [hc]; simp; omega)]
        · have : i1 = t := by rw [← u3, Sort.scanUp, if_neg (by rw [hc]; simp)]
          rw [← this]; exact k3 _ rfl (by omega)
      · have : i1 = t := by rw [← u3, Sort.scanUp, if_neg (by simp; omega)]
        rw [← this]; exact k3 _ rfl (by omega)
  have k1 : ∀ Hy, Hy = H1 → i0 ≤ b → slices_partitionOrdered_uint32.k1 K (a : Nat) l p ((b : Nat) - 1 : Int) (i0 : Nat) Hy := by
    rintro Hy rfl q1
    unfold slices_partitionOrdered_uint32.k1
    refine ⟨fun t Hw => ∃ t' : Nat, t = (t' : Nat) ∧ a ≤ t' ∧ t' < b ∧ i0 ≤ t' + 1 ∧ Hw = Hy ∧ Sort.scanDown (fun x => !Sort.ltInt x d1[a]!) d1 i0 t' = j0, fun t _ => t.toNat, ⟨b - 1, by omega, by omega, by omega, by omega, rfl, hj0.symm⟩, ?_⟩
    rintro t Hw ⟨t, rfl, u1, u2, u4, rfl, u3⟩
    refine bcd (fun hle => ?_) fun hle => ?_
    · obtain ⟨w, rfl⟩ : ∃ w, t = w + 1 := ⟨t - 1, by omega⟩
      refine rdU h1 (w + 1) rfl (by omega) (rdU h1 a rfl (by omega) (cmp_Less_uint32.c ?_))
      refine bcn (fun hc => ?_) fun hc => ?_
      · refine chk (by omega) ⟨⟨w, by omega, by omega, by omega, by omega, by trivial, ?_⟩, by first | omega | (dsimp only; omega)⟩
        rw [← u3]; conv => rhs; rw [Sort.scanDown, if_pos (by rw [hc]; simp; omega)]
      · have : j0 = w + 1 := by rw [← u3, Sort.scanDown, if_neg (by rw [hc]; simp)]
        rw [← this]; exact k2 _ rfl (by omega) (by omega) (by omega)
    · have : j0 = t := by
        rw [← u3]
        cases t with
        | zero => rfl
        | succ t => rw [Sort.scanDown, if_neg (by simp; omega)]
      rw [← this]; exact k2 _ rfl (by omega) (by omega) (by omega)
  refine ⟨fun t Hw => ∃ t' : Nat, t = (t' : Nat) ∧ a + 1 ≤ t' ∧ t' ≤ b ∧ Hw = H1 ∧ Sort.scanUp (fun x => Sort.ltInt x d1[a]!) d1 (b - 1) t' = i0, fun t _ => ((b : Int) + 1 - t).toNat, ⟨a + 1, by omega, by omega, by omega, rfl, hi0.symm⟩, ?_⟩
  rintro t Hw ⟨t, rfl, u1, u2, rfl, u3⟩
  refine bcd (fun hle => ?_) fun hle => ?_
  · refine rdU h1 t rfl (by omega) (rdU h1 a rfl (by omega) (cmp_Less_uint32.c ?_))
    refine bc_i (fun hc => ?_) fun hc => ?_
    · refine chk (by omega) ⟨⟨t + 1, by omega, by omega, by omega, by trivial, ?_⟩, by first | omega | (dsimp only; omega)⟩
      rw [← u3]; conv => rhs; rw [Sort.scanUp, if_pos (by rw [hc]; simp; omega)]
    · have : i0 = t := by rw [← u3, Sort.scanUp, if_neg (by rw [hc]; simp)]
      rw [← this]; exact k1 _ rfl (by omega)
  · have : i0 = t := by rw [← u3, Sort.scanUp, if_neg (by simp; omega)]
    rw [← this]; exact k1 _ rfl (by omega)
theorem slices_partitionEqualOrdered_uint32.c {a b pv : Nat} {K : Int → Hp → Prop} (h : A1 fU H p l d) (hp1 : a ≤ pv) (hp2 : pv < b) (hb : b ≤ d.size) (hl : l ≤ 1000000000)
    (hK : ∀ H', A1 fU H' p l (Sort.partitionEqual Sort.ltInt d a b pv).2 → Mod (blkL p) H H' → K ((Sort.partitionEqual Sort.ltInt d a b pv).1 : Nat) H') : slices_partitionEqualOrdered_uint32.C p l cc (a : Nat) (b : Nat) (pv : Nat) H K := by
  apply slices_partitionEqualOrdered_uint32.of
  have hl0 := h.1
  refine rdU h pv rfl (by omega) (rdU h a rfl (by omega) (swU h (i := a) (j := pv) (by omega) (by omega) rfl rfl fun H1 h1 m1 => chk (by omega) (chk (by omega) ?_)))
  have hres : Sort.partitionEqual Sort.ltInt d a b pv = Sort.partEqLoop Sort.ltInt a (a + 1) (b - 1) (Sort.swp d a pv) := rfl
  generalize Sort.partitionEqual Sort.ltInt d a b pv = R at *
  refine ⟨fun i j Hx => ∃ (i' j' : Nat) (d2 : Array Int), i = (i' : Nat) ∧ j = (j' : Nat) ∧ a + 1 ≤ i' ∧ i' ≤ b + 1 ∧ a ≤ j' ∧ j' < b ∧ d2.size = d.size ∧ A1 fU Hx p l d2 ∧ Mod (blkL p) H Hx ∧ Sort.partEqLoop Sort.ltInt a i' j' d2 = R, fun i j _ => (j + 2 - i).toNat, ⟨a + 1, b - 1, _, by omega, by omega, by omega, by omega, by omega, by omega, by rw [Sort.swp_size], h1, m1, hres.symm⟩, ?_⟩
  rintro i j Hx ⟨i, j, d2, rfl, rfl, w1, w2, w3, w4, s2, h2x, m2x, eR⟩
  rw [Sort.partEqLoop_eq] at eR
  have gi := Sort.scanUp_ge (fun x => !Sort.ltInt d2[a]! x) d2 j i
  obtain ⟨i1, hi1⟩ : ∃ i1, i1 = Sort.scanUp (fun x => !Sort.ltInt d2[a]! x) d2 j i := ⟨_, rfl⟩
  rw [← hi1] at eR gi
  obtain ⟨j1, hj1⟩ : ∃ j1, j1 = Sort.scanDown (fun x => Sort.ltInt d2[a]! x) d2 i1 j := ⟨_, rfl⟩
  have gj := Sort.scanDown_le (fun x => Sort.ltInt d2[a]! x) d2 i1 j
  rw [← hj1] at eR gj
  have k2 : ∀ Hz, Hz = Hx → i1 ≤ b + 1 → a ≤ j1 → slices_partitionEqualOrdered_uint32.k2 Hx (fun i j Hx => ∃ (i' j' : Nat) (d2 : Array Int), i = (i' : Nat) ∧ j = (j' : Nat) ∧ a + 1 ≤ i' ∧ i' ≤ b + 1 ∧ a ≤ j' ∧ j' < b ∧ d2.size = d.size ∧ A1 fU Hx p l d2 ∧ Mod (blkL p) H Hx ∧ Sort.partEqLoop Sort.ltInt a i' j' d2 = R) K l p (i : Nat) (i1 : Nat) (j : Nat) (fun i j _ => (j + 2 - i).toNat) (j1 : Nat) Hz := by
    rintro Hz rfl v1 v2
    unfold slices_partitionEqualOrdered_uint32.k2
    refine bcd (fun hlt => ?_) fun hlt => ?_
    · rw [if_pos (by omega)] at eR
      rw [← eR] at hK
      exact hK _ h2x m2x
    · rw [if_neg (by omega)] at eR
      exact rdU h2x j1 rfl (by omega) (rdU h2x i1 rfl (by omega) (swU h2x (i := i1) (j := j1) (by omega) (by omega) rfl rfl fun H3 h3 m3 => chk (by omega) (chk (by omega) ⟨⟨i1 + 1, j1 - 1, _, by omega, by omega, by omega, by omega, by omega, by omega, by rw [Sort.swp_size]; exact s2, h3, m2x.trans m3, eR⟩, by first | omega | (dsimp only; omega)⟩)))
  have k1 : ∀ Hz, Hz = Hx → i1 ≤ b + 1 → slices_partitionEqualOrdered_uint32.k1 Hx (fun i j Hx => ∃ (i' j' : Nat) (d2 : Array Int), i = (i' : Nat) ∧ j = (j' : Nat) ∧ a + 1 ≤ i' ∧ i' ≤ b + 1 ∧ a ≤ j' ∧ j' < b ∧ d2.size = d.size ∧ A1 fU Hx p l d2 ∧ Mod (blkL p) H Hx ∧ Sort.partEqLoop Sort.ltInt a i' j' d2 = R) K (a : Nat) l p (i : Nat) (j : Nat) (fun i j _ => (j + 2 - i).toNat) (i1 : Nat) Hz := by
    rintro Hz rfl v1
    unfold slices_partitionEqualOrdered_uint32.k1
    refine ⟨fun t Hw => ∃ t' : Nat, t = (t' : Nat) ∧ a ≤ t' ∧ t' < b ∧ Hw = Hz ∧ Sort.scanDown (fun x => Sort.ltInt d2[a]! x) d2 i1 t' = j1, fun t _ => t.toNat, ⟨j, rfl, w3, w4, rfl, hj1.symm⟩, ?_⟩
    rintro t Hw ⟨t, rfl, u1, u2, rfl, u3⟩
    refine bcd (fun hle => ?_) fun hle => ?_
    · obtain ⟨w, rfl⟩ : ∃ w, t = w + 1 := ⟨t - 1, by omega⟩
      refine rdU h2x a rfl (by omega) (rdU h2x (w + 1) rfl (by omega) (cmp_Less_uint32.c ?_))
      refine bc_i (fun hc => ?_) fun hc => ?_
      · refine chk (by omega) ⟨⟨w, by omega, by omega, by omega, by trivial, ?_⟩, by first | omega | (dsimp only; omega)⟩
        rw [← u3]; conv => rhs; rw [Sort.scanDown, if_pos (by rw [hc]; simp; omega)]
      · have : j1 = w + 1 := by rw [← u3, Sort.scanDown, if_neg (by rw [hc]; simp)]
        rw [← this]; exact k2 _ rfl v1 (by omega)
    · have : j1 = t := by
        rw [← u3]
        cases t with
        | zero => rfl
        | succ t => rw [Sort.scanDown, if_neg (by simp; omega)]
      rw [← this]; exact k2 _ rfl v1 (by omega)
  refine ⟨fun t Hw => ∃ t' : Nat, t = (t' : Nat) ∧ a + 1 ≤ t' ∧ t' ≤ b + 1 ∧ Hw = Hx ∧ Sort.scanUp (fun x => !Sort.ltInt d2[a]! x) d2 j t' = i1, fun t _ => ((b : Int) + 1 - t).toNat, ⟨i, rfl, w1, w2, rfl, hi1.symm⟩, ?_⟩
  rintro t Hw ⟨t, rfl, u1, u2, rfl, u3⟩
  refine bcd (fun hle => ?_) fun hle => ?_
  · refine rdU h2x a rfl (by omega) (rdU h2x t rfl (by omega) (cmp_Less_uint32.c ?_))
    refine bcn (fun hc => ?_) fun hc => ?_
    · refine chk (by omega) ⟨⟨t + 1, by omega, by omega, by omega, by trivial, ?_⟩, by first | omega | (dsimp only; omega)⟩
      rw [← u3]; conv => rhs; rw [Sort.scanUp, if_pos (by rw [hc]; simp; omega)]
    · have : i1 = t := by rw [← u3, Sort.scanUp, if_neg (by rw [hc]; simp)]
      rw [← this]; exact k1 _ rfl (by omega)
  · have : i1 = t := by rw [← u3, Sort.scanUp, if_neg (by simp; omega)]
    rw [← this]; exact k1 _ rfl (by omega)
theorem slices_partialInsertionSortOrdered_uint32.c {a b : Nat} {K : Bool → Hp → Prop} (h : A1 fU H p l d) (hab : a < b) (hb : b ≤ d.size) (hl : l ≤ 1000000000)
    (hK : ∀ H', A1 fU H' p l (Sort.partialInsertionSort Sort.ltInt d a b).1 → Mod (blkL p) H H' → K (Sort.partialInsertionSort Sort.ltInt d a b).2 H') : slices_partialInsertionSortOrdered_uint32.C p l cc (a : Nat) (b : Nat) H K := by
  apply slices_partialInsertionSortOrdered_uint32.of
  have hl0 := h.1
  have hres : Sort.partialInsertionSort Sort.ltInt d a b = Sort.partialIns Sort.ltInt a b 5 (a + 1) d := rfl
  generalize Sort.partialInsertionSort Sort.ltInt d a b = R at *
  refine chk (by omega) ?_
  refine ⟨fun i j Hx => ∃ (i' j' : Nat) (d1 : Array Int), i = (i' : Nat) ∧ j = (j' : Nat) ∧ a + 1 ≤ i' ∧ i' ≤ b ∧ j' ≤ 5 ∧ d1.size = d.size ∧ A1 fU Hx p l d1 ∧ Mod (blkL p) H Hx ∧ Sort.partialIns Sort.ltInt a b (5 - j') i' d1 = R, fun _ j _ => (5 - j).toNat, ⟨a + 1, 0, d, by omega, rfl, by omega, by omega, by omega, rfl, h, Mod.refl, hres.symm⟩, ?_⟩
  rintro i j Hx ⟨i, j, d1, rfl, rfl, g1, g2, g3, gs, h1, m1, e1⟩
  refine bcd (fun hlt => ?_) fun hlt => ?_
  · obtain ⟨s, hs⟩ : ∃ s, 5 - j = s + 1 := ⟨5 - j - 1, by omega⟩
    rw [hs, Sort.partialIns_succ] at e1
    obtain ⟨i1, hi1⟩ : ∃ i1, i1 = Sort.scanSorted Sort.ltInt d1 b i := ⟨_, rfl⟩
    rw [← hi1] at e1
    have k1 : ∀ Hy, Hy = Hx → a + 1 ≤ i1 → i1 ≤ b → slices_partialInsertionSortOrdered_uint32.k1 Hx (fun i j Hx => ∃ (i' j' : Nat) (d1 : Array Int), i = (i' : Nat) ∧ j = (j' : Nat) ∧ a + 1 ≤ i' ∧ i' ≤ b ∧ j' ≤ 5 ∧ d1.size = d.size ∧ A1 fU Hx p l d1 ∧ Mod (blkL p) H Hx ∧ Sort.partialIns Sort.ltInt a b (5 - j') i' d1 = R) K (a : Nat) (b : Nat) l p (i : Nat) (j : Nat) (fun _ j _ => (5 - j).toNat) (i1 : Nat) Hy := by
      rintro Hy rfl q1 q2
      unfold slices_partialInsertionSortOrdered_uint32.k1
      refine bcd (fun he => ?_) fun he => ?_
      · rw [if_pos (by omega)] at e1
        rw [← e1] at hK
        exact hK _ h1 m1
      rw [if_neg (by omega)] at e1
      refine chk (by omega) (bcd (fun h50 => ?_) fun h50 => ?_)
      · rw [if_pos (by omega)] at e1
        rw [← e1] at hK
        exact hK _ h1 m1
      rw [if_neg (by omega)] at e1
      refine chk (by omega) (chk (by omega) (rdU h1 (i1 - 1) (by omega) (by omega) (rdU h1 i1 rfl (by omega) (swU h1 (i := i1) (j := i1 - 1) (by omega) (by omega) rfl (by omega) fun H2 h2 m2 => chk (by omega) ?_))))
      generalize hd2 : Sort.swp d1 i1 (i1 - 1) = d2 at *
      have s2 : d2.size = d.size := by rw [← hd2, Sort.swp_size]; exact gs
      -- behind the shift down
      have k2 : ∀ (Hz : Hp) (d3 : Array Int), d3 = Sort.fixDown Sort.ltInt a i1 d2 → d3.size = d.size → A1 fU Hz p l d3 → Mod (blkL p) H Hz → slices_partialInsertionSortOrdered_uint32.k2 Hy (fun i j Hx => ∃ (i' j' : Nat) (d1 : Array Int), i = (i' : Nat) ∧ j = (j' : Nat) ∧ a + 1 ≤ i' ∧ i' ≤ b ∧ j' ≤ 5 ∧ d1.size = d.size ∧ A1 fU Hx p l d1 ∧ Mod (blkL p) H Hx ∧ Sort.partialIns Sort.ltInt a b (5 - j') i' d1 = R) (b : Nat) l p (i1 : Nat) (i : Nat) (j : Nat) (fun _ j _ => (5 - j).toNat) Hz := by
        intro Hz d3 hd3 s3 h3 m3
        rw [← hd3] at e1
        have fin : ∀ (Hw : Hp) (d4 : Array Int), d4 = Sort.fixUp Sort.ltInt b i1 d3 → d4.size = d.size → A1 fU Hw p l d4 → Mod (blkL p) H Hw → CHK .i64 (((j : Nat) : Int) + (1 : Int)) fun x => (∃ (i' j' : Nat) (d1 : Array Int), ((i1 : Nat) : Int) = (i' : Nat) ∧ x = (j' : Nat) ∧ a + 1 ≤ i' ∧ i' ≤ b ∧ j' ≤ 5 ∧ d1.size = d.size ∧ A1 fU Hw p l d1 ∧ Mod (blkL p) H Hw ∧ Sort.partialIns Sort.ltInt a b (5 - j') i' d1 = R) ∧ (5 - x).toNat < (5 - ((j : Nat) : Int)).toNat := fun Hw d4 hd4 s4 h4 m4 =>
          chk (by omega) ⟨⟨i1, j + 1, d4, rfl, by omega, q1, q2, by omega, s4, h4, m4, by rw [show 5 - (j + 1) = s by omega, hd4]; exact e1⟩, by omega⟩
        unfold slices_partialInsertionSortOrdered_uint32.k2
        refine chk (by omega) (bcd (fun hge => ?_) fun hge => fin Hz d3 (by unfold Sort.fixUp; rw [if_neg (by omega)]) s3 h3 m3)
        have hfu : Sort.fixUp Sort.ltInt b i1 d3 = Sort.shiftUp Sort.ltInt b (i1 + 1) d3 := by unfold Sort.fixUp; rw [if_pos (by omega)]
        refine chk (by omega) ?_
        refine ⟨fun t Hw => ∃ (t' : Nat) (d4 : Array Int), t = (t' : Nat) ∧ i1 + 1 ≤ t' ∧ t' ≤ b ∧ d4.size = d.size ∧ A1 fU Hw p l d4 ∧ Mod (blkL p) H Hw ∧ Sort.shiftUp Sort.ltInt b t' d4 = Sort.fixUp Sort.ltInt b i1 d3, fun t _ => ((b : Int) - t).toNat, ⟨i1 + 1, d3, by omega, by omega, by omega, s3, h3, m3, hfu.symm⟩, ?_⟩
        rintro t Hw ⟨t, d4, rfl, u1, u2, s4, h4, m4, e4⟩
        refine bcd (fun hlt' => ?_) fun hlt' => fin Hw d4 (by rw [← e4, Sort.shiftUp, if_neg (by omega)]) s4 h4 m4
        rw [Sort.shiftUp, if_pos (by omega)] at e4
        refine rdU h4 t rfl (by omega) (chk (by omega) (rdU h4 (t - 1) (by omega) (by omega) (cmp_Less_uint32.c ?_)))
        refine bcn (fun hc => ?_) fun hc => ?_
        · rw [if_pos (by rw [hc]; rfl)] at e4
          exact fin Hw d4 e4 s4 h4 m4
        · rw [if_neg (by rw [hc]; decide)] at e4
          exact chk (by omega) (chk (by omega) (rdU h4 (t - 1) (by omega) (by omega) (rdU h4 t rfl (by omega) (swU h4 (i := t) (j := t - 1) (by omega) (by omega) rfl (by omega) fun H5 h5 m5 => chk (by omega) ⟨⟨t + 1, _, by omega, by omega, by omega, by rw [Sort.swp_size]; exact s4, h5, m4.trans m5, e4⟩, by first | omega | (dsimp only; omega)⟩))))
      refine bcd (fun hge => ?_) fun hge => k2 H2 d2 (by unfold Sort.fixDown; rw [if_neg (by omega)]) s2 h2 (m1.trans m2)
      have hfd : Sort.fixDown Sort.ltInt a i1 d2 = Sort.shiftDown Sort.ltInt (i1 - 1) d2 := by unfold Sort.fixDown; rw [if_pos (by omega)]
      refine chk (by omega) ?_
      refine ⟨fun t Hw => ∃ (t' : Nat) (d3 : Array Int), t = (t' : Nat) ∧ t' ≤ i1 - 1 ∧ d3.size = d.size ∧ A1 fU Hw p l d3 ∧ Mod (blkL p) H Hw ∧ Sort.shiftDown Sort.ltInt t' d3 = Sort.fixDown Sort.ltInt a i1 d2, fun t _ => t.toNat, ⟨i1 - 1, d2, by omega, Nat.le_refl _, s2, h2, m1.trans m2, hfd.symm⟩, ?_⟩
      rintro t Hw ⟨t, d3, rfl, u1, s3, h3, m3, e3⟩
      refine bcd (fun hge' => ?_) fun hge' => ?_
      · obtain ⟨w, rfl⟩ : ∃ w, t = w + 1 := ⟨t - 1, by omega⟩
        rw [Sort.shiftDown] at e3
        refine rdU h3 (w + 1) rfl (by omega) (chk (by omega) (rdU h3 w (by omega) (by omega) (cmp_Less_uint32.c ?_)))
        refine bcn (fun hc => ?_) fun hc => ?_
        · rw [if_pos (by rw [hc]; rfl)] at e3
          exact k2 Hw d3 e3 s3 h3 m3
        · rw [if_neg (by rw [hc]; decide)] at e3
          exact chk (by omega) (chk (by omega) (rdU h3 w (by omega) (by omega) (rdU h3 (w + 1) rfl (by omega) (swU h3 (i := w + 1) (j := w) (by omega) (by omega) rfl (by omega) fun H5 h5 m5 => chk (by omega) ⟨⟨w, _, by omega, by omega, by rw [Sort.swp_size]; exact s3, h5, m3.trans m5, e3⟩, by first | omega | (dsimp only; omega)⟩))))
      · have : t = 0 := by omega
        subst this
        exact k2 Hw d3 (by rw [← e3]; rfl) s3 h3 m3
    refine ⟨fun t Hw => ∃ t' : Nat, t = (t' : Nat) ∧ a + 1 ≤ t' ∧ t' ≤ b ∧ Hw = Hx ∧ Sort.scanSorted Sort.ltInt d1 b t' = i1, fun t _ => ((b : Int) - t).toNat, ⟨i, rfl, g1, g2, rfl, hi1.symm⟩, ?_⟩
    rintro t Hw ⟨t, rfl, u1, u2, rfl, u3⟩
    refine bcd (fun hle => ?_) fun hle => ?_
    · refine rdU h1 t rfl (by omega) (chk (by omega) (rdU h1 (t - 1) (by omega) (by omega) (cmp_Less_uint32.c ?_)))
      refine bcn (fun hc => ?_) fun hc => ?_
      · refine chk (by omega) ⟨⟨t + 1, by omega, by omega, by omega, by trivial, ?_⟩, by first | omega | (dsimp only; omega)⟩
        rw [← u3]; conv => rhs; rw [Sort.scanSorted, if_pos (by rw [hc]; simp; omega)]
      · have : i1 = t := by rw [← u3, Sort.scanSorted, if_neg (by rw [hc]; simp)]
        rw [← this]; exact k1 _ rfl (by omega) (by omega)
    · have : i1 = t := by rw [← u3, Sort.scanSorted, if_neg (by simp; omega)]
      rw [← this]; exact k1 _ rfl (by omega) (by omega)
  · have : j = 5 := by omega
    subst this
    have : (d1, false) = R := e1
    rw [← this] at hK
    exact hK _ h1 m1
theorem slices_breakPatternsOrdered_uint32.c {a b : Nat} {K : Hp → Prop} (h : A1 fU H p l d) (hab : a ≤ b) (hb : b ≤ d.size) (hl : l ≤ 1000000000)
    (hK : ∀ H' d', A1 fU H' p l d' → Mod (blkL p) H H' → Sort.PermIn a b d d' → K H') : slices_breakPatternsOrdered_uint32.C p l cc (a : Nat) (b : Nat) H K := by
  apply slices_breakPatternsOrdered_uint32.of
  have hl0 := h.1
  unfold slices_breakPatternsOrdered_uint32.F
  rw [show ((b : Nat) : Int) - ((a : Nat) : Int) = ((b - a : Nat) : Int) by omega]
  refine chk (by omega) (bcd (fun h8 => ?_) fun _ => hK H d h Mod.refl (Sort.permIn_refl d a b))
  rw [wrapU (b - a) (by omega)]
  intro q hq
  refine ST_upd rfl ?_
  have le1 : Le H (upd H q ([.int .u64 (0 : Int)].set 0 (.int .u64 ((b - a : Nat) : Int)))) := Le.upd hq
  have q1 : rd (upd H q ([.int .u64 (0 : Int)].set 0 (.int .u64 ((b - a : Nat) : Int)))) q 0 = some (.int .u64 ((b - a : Nat) : Int)) := by rw [rd_upd_self]; rfl
  have h1 := A1.le h le1
  have hqp : q ∉ blkL p := fun hx => A1.there h (by omega) hx hq
  have hn : ∀ b ∈ blkL p, b ∉ [q] := fun b hb hb' => by simp at hb'; subst hb'; exact hqp hb
  generalize upd H q ([.int .u64 (0 : Int)].set 0 (.int .u64 ((b - a : Nat) : Int))) = H1 at *
  refine slices_nextPowerOfTwo.c (by omega) ⟨by decide, ?_⟩
  have hpw := Sort.two_pow_bitsLen_le (n := b - a) (by omega)
  have hpos : 0 < 2 ^ Sort.bitsLen (b - a) := Nat.pow_pos (by decide)
  generalize 2 ^ Sort.bitsLen (b - a) = M at *
  rw [show (4 : Int) = ((4 : Nat) : Int) from rfl, tdivN]
  refine chk (by omega) (chk (by omega) (chk (by omega) (chk (by omega) ?_)))
  refine ⟨fun i Hx => ∃ (i' : Nat) (d1 : Array Int) (m : Int), i = (i' : Nat) ∧ a + (b - a) / 4 * 2 - 1 ≤ i' ∧ i' ≤ a + (b - a) / 4 * 2 + 2 ∧ d1.size = d.size ∧ A1 fU Hx p l d1 ∧ Mod (q :: blkL p) H Hx ∧ rd Hx q 0 = some (.int .u64 m) ∧ Sort.PermIn a b d d1, fun i _ => (((a + (b - a) / 4 * 2 + 3 : Nat) : Int) - i).toNat, ⟨a + (b - a) / 4 * 2 - 1, d, _, by omega, Nat.le_refl _, by omega, rfl, h1, le1.mod, q1, Sort.permIn_refl d a b⟩, ?_⟩
  rintro i Hx ⟨i, d1, m, rfl, g1, g2, gs, h1x, m1x, q1x, hpm⟩
  refine ⟨by decide, chk (by omega) (chk (by omega) (chk (by omega) (chk (by omega) (bcd (fun hle => ?_) fun hle => ?_))))⟩
  · refine slices_xorshift_Next.c q1x fun m2 H2 q2 mm => ?_
    have h2 := A1.mod h1x mm hn
    rw [show ((M : Nat) : Int) - 1 = ((M - 1 : Nat) : Int) by omega, wrapU (M - 1) (by omega)]
    obtain ⟨o, ho, hom⟩ := iand_bound m2 (M - 1) (by omega)
    rw [ho, wrapI o (by omega)]
    have m2x : Mod (q :: blkL p) H H2 := m1x.trans (mm.mono (by simp))
    have go : ∀ o' : Nat, o' < b - a → slices_breakPatternsOrdered_uint32.k1 Hx (fun i Hx => ∃ (i' : Nat) (d1 : Array Int) (m : Int), i = (i' : Nat) ∧ a + (b - a) / 4 * 2 - 1 ≤ i' ∧ i' ≤ a + (b - a) / 4 * 2 + 2 ∧ d1.size = d.size ∧ A1 fU Hx p l d1 ∧ Mod (q :: blkL p) H Hx ∧ rd Hx q 0 = some (.int .u64 m) ∧ Sort.PermIn a b d d1) (a : Nat) l p (i : Nat) (fun i _ => (((a + (b - a) / 4 * 2 + 3 : Nat) : Int) - i).toNat) (o' : Nat) H2 := by
      intro o' ho'
      unfold slices_breakPatternsOrdered_uint32.k1
      refine chk (by omega) (chk (by omega) (rdU h2 (a + o') (by omega) (by omega) (rdU h2 i rfl (by omega) (swU h2 (i := i) (j := a + o') (by omega) (by omega) rfl (by omega) fun H3 h3 m3 => chk (by omega) ⟨⟨i + 1, _, m2, by omega, by omega, by omega, by rw [Sort.swp_size]; exact gs, h3, m2x.trans (m3.mono fun x hx => List.mem_cons_of_mem _ hx), m3.rd hqp q2, ?_⟩, by first | omega | (dsimp only; omega)⟩))))
      exact Sort.permIn_trans _ _ _ a b hpm (Sort.swp_permIn d1 a b i (a + o') (by omega) (by omega) (by omega) (by omega) (by omega))
    refine bcd (fun hge => chk (by omega) ?_) fun hlt => go o (by omega)
    rw [show ((o : Nat) : Int) - ((b - a : Nat) : Int) = ((o - (b - a) : Nat) : Int) by omega]
    exact go _ (by omega)
  · exact hK Hx d1 h1x (fun b' hb' c' e => m1x b' (fun hx => by
      rcases List.mem_cons.1 hx with hx | hx
      · rw [hx, hq] at e; cases e
      · exact hb' hx) c' e) hpm
theorem slices_pdqsortOrdered_uint32.c : ∀ (n : Nat) {H : Hp} {d : Array Int} {a b : Nat} {lim : Int} {K : Hp → Prop}, b - a ≤ n → A1 fU H p l d → a ≤ b → b ≤ d.size → 0 ≤ lim → lim ≤ 1000 → Sort.Below Sort.ltInt a b d → l ≤ 1000000000 →
    (∀ H' d', A1 fU H' p l d' → Mod (blkL p) H H' → Sort.PermIn a b d d' → Sort.SortedIn Sort.ltInt a b d' → K H') → slices_pdqsortOrdered_uint32.C p l cc (a : Nat) (b : Nat) lim H K := by
  intro n
  induction n using Nat.strongRecOn with
  | _ n ih =>
  intro H d a0 b0 lim0 K hn h hab hb hl1 hl2 hB hl hK
  apply slices_pdqsortOrdered_uint32.of
  have hl0 := h.1
  refine ⟨fun a b lim _ _ Hx => ∃ (a' b' : Nat) (d1 : Array Int), a = (a' : Nat) ∧ b = (b' : Nat) ∧ a0 ≤ a' ∧ a' ≤ b' ∧ b' ≤ b0 ∧ 0 ≤ lim ∧ lim ≤ 1000 ∧ d1.size = d.size ∧ A1 fU Hx p l d1 ∧ Mod (blkL p) H Hx ∧ Sort.Below Sort.ltInt a' b' d1 ∧ ∀ R, Sort.PermIn a' b' d1 R → Sort.SortedIn Sort.ltInt a' b' R → Sort.PermIn a0 b0 d R ∧ Sort.SortedIn Sort.ltInt a0 b0 R, fun a b _ _ _ _ => (b - a).toNat,
    ⟨a0, b0, d, rfl, rfl, Nat.le_refl _, hab, Nat.le_refl _, hl1, hl2, rfl, h, Mod.refl, hB, fun R h1 h2 => ⟨h1, h2⟩⟩, ?_⟩
  rintro a b lim wb wp Hx ⟨a, b, d1, rfl, rfl, g1, g2, g3, g4, g5, gs, h1, m1, hB1, hR⟩
  have fin : ∀ (Hy : Hp) (d' : Array Int), A1 fU Hy p l d' → Mod (blkL p) H Hy → Sort.PermIn a b d1 d' → Sort.SortedIn Sort.ltInt a b d' → K Hy := fun Hy d' hA hM hP hS => hK Hy d' hA hM (hR d' hP hS).1 (hR d' hP hS).2
  refine chk (by omega) (bcd (fun h12 => slices_insertionSortOrdered_uint32.c h1 g2 (by omega) hl fun H2 d2 h2 m2 hP hS => fin H2 d2 h2 (m1.trans m2) hP hS) fun h12 => ?_)
  refine bcd (fun h0 => slices_heapSortOrdered_uint32.c h1 g2 (by omega) hl fun H2 d2 h2 m2 hP hS => fin H2 d2 h2 (m1.trans m2) hP hS) fun h0 => ?_
  have k1 : ∀ (lim' : Int) (H2 : Hp) (d2 : Array Int), 0 ≤ lim' → lim' ≤ 1000 → A1 fU H2 p l d2 → Mod (blkL p) H H2 → Sort.PermIn a b d1 d2 → slices_pdqsortOrdered_uint32.k1 Hx (fun a b lim _ _ Hx => ∃ (a' b' : Nat) (d1 : Array Int), a = (a' : Nat) ∧ b = (b' : Nat) ∧ a0 ≤ a' ∧ a' ≤ b' ∧ b' ≤ b0 ∧ 0 ≤ lim ∧ lim ≤ 1000 ∧ d1.size = d.size ∧ A1 fU Hx p l d1 ∧ Mod (blkL p) H Hx ∧ Sort.Below Sort.ltInt a' b' d1 ∧ ∀ R, Sort.PermIn a' b' d1 R → Sort.SortedIn Sort.ltInt a' b' R → Sort.PermIn a0 b0 d R ∧ Sort.SortedIn Sort.ltInt a0 b0 R) K (a : Nat) (b : Nat) cc l p lim (fun a b _ _ _ _ => (b - a).toNat) wb wp ((b : Nat) - (a : Nat) : Int) lim' H2 := by
    intro lim' H2 d2 q1 q2 h2 m2 hP2
    have s2 : d2.size = d.size := hP2.1.trans gs
    unfold slices_pdqsortOrdered_uint32.k1
    -- the pivot
    have k3 : ∀ (pv : Nat) (H4 : Hp) (d4 : Array Int), a ≤ pv → pv < b → A1 fU H4 p l d4 → Mod (blkL p) H H4 → Sort.PermIn a b d1 d4 → slices_pdqsortOrdered_uint32.k3 Hx (fun a b lim _ _ Hx => ∃ (a' b' : Nat) (d1 : Array Int), a = (a' : Nat) ∧ b = (b' : Nat) ∧ a0 ≤ a' ∧ a' ≤ b' ∧ b' ≤ b0 ∧ 0 ≤ lim ∧ lim ≤ 1000 ∧ d1.size = d.size ∧ A1 fU Hx p l d1 ∧ Mod (blkL p) H Hx ∧ Sort.Below Sort.ltInt a' b' d1 ∧ ∀ R, Sort.PermIn a' b' d1 R → Sort.SortedIn Sort.ltInt a' b' R → Sort.PermIn a0 b0 d R ∧ Sort.SortedIn Sort.ltInt a0 b0 R) (a : Nat) (b : Nat) cc l p lim' lim (fun a b _ _ _ _ => (b - a).toNat) (pv : Nat) wb wp ((b : Nat) - (a : Nat) : Int) H4 := by
      intro pv H4 d4 w1 w2 h4 m4 hP4
      have s4 : d4.size = d.size := hP4.1.trans gs
      have hB4 : Sort.Below Sort.ltInt a b d4 := Sort.Below.perm hB1 (by omega) hP4
      have toR : ∀ R, Sort.PermIn a b d4 R ∧ Sort.SortedIn Sort.ltInt a b R → Sort.PermIn a0 b0 d R ∧ Sort.SortedIn Sort.ltInt a0 b0 R := fun R hh => hR R (Sort.permIn_trans _ _ _ a b hP4 hh.1) hh.2
      unfold slices_pdqsortOrdered_uint32.k3
      have k4 : ∀ Hy, Hy = H4 → slices_pdqsortOrdered_uint32.k4 Hx (fun a b lim _ _ Hx => ∃ (a' b' : Nat) (d1 : Array Int), a = (a' : Nat) ∧ b = (b' : Nat) ∧ a0 ≤ a' ∧ a' ≤ b' ∧ b' ≤ b0 ∧ 0 ≤ lim ∧ lim ≤ 1000 ∧ d1.size = d.size ∧ A1 fU Hx p l d1 ∧ Mod (blkL p) H Hx ∧ Sort.Below Sort.ltInt a' b' d1 ∧ ∀ R, Sort.PermIn a' b' d1 R → Sort.SortedIn Sort.ltInt a' b' R → Sort.PermIn a0 b0 d R ∧ Sort.SortedIn Sort.ltInt a0 b0 R) (a : Nat) (b : Nat) cc l p lim' lim (fun a b _ _ _ _ => (b - a).toNat) (pv : Nat) wb wp ((b : Nat) - (a : Nat) : Int) (a : Nat) Hy := by
        rintro Hy rfl
        unfold slices_pdqsortOrdered_uint32.k4
        refine slices_partitionOrdered_uint32.c h4 w1 w2 (by omega) hl fun H5 h5 m5 => ?_
        obtain ⟨⟨mid, ap, d5⟩, hpt⟩ : ∃ r, Sort.partition Sort.ltInt d4 a b pv = r := ⟨_, rfl⟩
        obtain ⟨z1, z2, z3, z4, z5, z6, z7⟩ := Sort.round_part Sort.swo_ltInt (Sort.partition_holds Sort.ltInt) w1 w2 (by omega) hB4 hpt
        rw [hpt] at h5 ⊢
        have m45 := m4.trans m5
        have s5 : d5.size = d.size := z3.trans s4
        simp only at h5 ⊢
        rw [show ((b : Nat) : Int) - ((a : Nat) : Int) = ((b - a : Nat) : Int) by omega, show (8 : Int) = ((8 : Nat) : Int) from rfl, tdivN]
        refine chk (by omega) (chk (by omega) ⟨by decide, chk (by omega) (bcd (fun hlt => ?_) fun hlt => chk (by omega) ?_)⟩)
        · refine ih (mid - a) (by omega) (Nat.le_refl _) h5 z1 (by omega) q1 q2 z4 hl fun H6 d6 h6 m6 hP6 hS6 => chk (by omega) ⟨⟨mid + 1, b, d6, by omega, rfl, by omega, by omega, g3, q1, q2, hP6.1.trans s5, h6, m45.trans m6, (z6 d6 hP6 hS6).1, fun R r1 r2 => toR R ((z6 d6 hP6 hS6).2 R r1 r2)⟩, by first | omega | (dsimp only; omega)⟩
        · rw [show ((mid : Nat) : Int) + 1 = ((mid + 1 : Nat) : Int) by omega]
          refine ih (b - (mid + 1)) (by omega) (Nat.le_refl _) h5 (by omega) (by omega) q1 q2 z5 hl fun H6 d6 h6 m6 hP6 hS6 => ⟨⟨a, mid, d6, rfl, rfl, g1, z1, by omega, q1, q2, hP6.1.trans s5, h6, m45.trans m6, (z7 d6 hP6 hS6).1, fun R r1 r2 => toR R ((z7 d6 hP6 hS6).2 R r1 r2)⟩, by first | omega | (dsimp only; omega)⟩
      refine bcd (fun ha0 => ?_) fun _ => k4 _ rfl
      refine chk (by omega) (rdU h4 (a - 1) (by omega) (by omega) (rdU h4 pv rfl (by omega) (cmp_Less_uint32.c ?_)))
      refine bcn (fun hc => ?_) fun _ => k4 _ rfl
      refine slices_partitionEqualOrdered_uint32.c h4 w1 w2 (by omega) hl fun H5 h5 m5 => ?_
      obtain ⟨⟨mid, d5⟩, hpt⟩ : ∃ r, Sort.partitionEqual Sort.ltInt d4 a b pv = r := ⟨_, rfl⟩
      obtain ⟨z1, z2, z3, z4, z5⟩ := Sort.round_eq Sort.swo_ltInt (Sort.partitionEqual_holds Sort.ltInt) (by omega) w1 w2 (by omega) hB4 hc hpt
      rw [hpt] at h5 ⊢
      exact ⟨⟨mid, b, d5, rfl, rfl, by omega, z2, g3, q1, q2, z3.trans s4, h5, m4.trans m5, z4, fun R r1 r2 => toR R (z5 R r1 r2)⟩, by first | omega | (dsimp only; omega)⟩
    have k2 : ∀ (pv : Nat) (t : Int) (H3 : Hp) (d3 : Array Int), a ≤ pv → pv < b → A1 fU H3 p l d3 → Mod (blkL p) H H3 → Sort.PermIn a b d1 d3 → slices_pdqsortOrdered_uint32.k2 Hx (fun a b lim _ _ Hx => ∃ (a' b' : Nat) (d1 : Array Int), a = (a' : Nat) ∧ b = (b' : Nat) ∧ a0 ≤ a' ∧ a' ≤ b' ∧ b' ≤ b0 ∧ 0 ≤ lim ∧ lim ≤ 1000 ∧ d1.size = d.size ∧ A1 fU Hx p l d1 ∧ Mod (blkL p) H Hx ∧ Sort.Below Sort.ltInt a' b' d1 ∧ ∀ R, Sort.PermIn a' b' d1 R → Sort.SortedIn Sort.ltInt a' b' R → Sort.PermIn a0 b0 d R ∧ Sort.SortedIn Sort.ltInt a0 b0 R) K (a : Nat) (b : Nat) cc l p lim' lim (fun a b _ _ _ _ => (b - a).toNat) wb wp ((b : Nat) - (a : Nat) : Int) (pv : Nat) t H3 := by
      intro pv t H3 d3 w1 w2 h3 m3 hP3
      unfold slices_pdqsortOrdered_uint32.k2
      refine bc_i (fun _ => bc_i (fun _ => bcd (fun _ => ?_) fun _ => k3 pv H3 d3 w1 w2 h3 m3 hP3) fun _ => k3 pv H3 d3 w1 w2 h3 m3 hP3) fun _ => k3 pv H3 d3 w1 w2 h3 m3 hP3
      have s3 : d3.size = d.size := hP3.1.trans gs
      have hB3 : Sort.Below Sort.ltInt a b d3 := Sort.Below.perm hB1 (by omega) hP3
      obtain ⟨hp1, hp2⟩ := Sort.partialInsertionSort_holds (lt := Sort.ltInt) Sort.swo_ltInt d3 a b (by omega) (by omega) hB3
      refine slices_partialInsertionSortOrdered_uint32.c h3 (by omega) (by omega) hl fun H4 h4 m4 => ?_
      refine bc_i (fun hc => fin H4 _ h4 (m3.trans m4) (Sort.permIn_trans _ _ _ a b hP3 hp1) (hp2 hc)) fun _ => k3 pv H4 _ w1 w2 h4 (m3.trans m4) (Sort.permIn_trans _ _ _ a b hP3 hp1)
    refine slices_choosePivotOrdered_uint32.c h2 (by omega) (by omega) hl fun pv t H3 w1 w2 le3 => ?_
    have h3 := A1.le h2 le3
    have m3 := m2.andLe le3
    refine bcd (fun _ => ?_) fun _ => k2 pv t H3 d2 w1 w2 h3 m3 hP2
    refine slices_reverseRangeOrdered_uint32.c h3 (by omega) (by omega) hl fun H4 d4 h4 m4 hP4 => chk (by omega) (chk (by omega) (chk (by omega) ?_))
    rw [show ((b : Nat) : Int) - 1 - (((pv : Nat) : Int) - ((a : Nat) : Int)) = ((b - 1 - (pv - a) : Nat) : Int) by omega]
    exact k2 _ 1 H4 d4 (by omega) (by omega) h4 (m3.trans m4) (Sort.permIn_trans _ _ _ a b hP2 hP4)
  refine bcn (fun _ => ?_) fun _ => k1 lim Hx d1 g4 g5 h1 m1 (Sort.permIn_refl d1 a b)
  exact slices_breakPatternsOrdered_uint32.c h1 g2 (by omega) hl fun H2 d2 h2 m2 hP2 => chk (by omega) (k1 _ H2 d2 (by omega) (by omega) h2 (m1.trans m2) hP2)
end
end Go.Proofs.YtbpbgkpkkklipaaGreat
namespace Go.Proofs.YtbpbgkpkkklipaaGreat
open Go.V
/-! ### Texts -/
abbrev BL := List UInt8
def L (s : ByteArray) : BL := s.data.toList
def mkB (l : BL) : ByteArray := ⟨⟨l⟩⟩
@[simp] theorem L_mk (l : BL) : L (mkB l) = l := rfl
@[simp] theorem mk_L (s : ByteArray) : mkB (L s) = s := rfl
theorem L_inj {a b : ByteArray} (h : L a = L b) : a = b := by rw [← mk_L a, ← mk_L b, h]
theorem L_size (s : ByteArray) : s.size = (L s).length := by cases s; rfl
@[simp] theorem L_bs (l : BL) : L (bs l) = l := rfl
theorem bs_mk (l : BL) : bs l = mkB l := rfl
theorem L_append (a b : ByteArray) : L (a ++ b) = L a ++ L b := by simp [L]
theorem L_extract (s : ByteArray) (j k : Nat) : L (s.extract j k) = ((L s).take k).drop j := by
  simp only [L]
  rw [ByteArray.data_extract]
  simp [List.drop_take]
theorem mkB_size (l : BL) : (mkB l).size = l.length := by rw [L_size]; rfl
theorem ext_take (l : BL) (j : Nat) : (mkB l).extract 0 j = mkB (l.take j) := L_inj (by rw [L_extract]; simp)
theorem ext_drop (l : BL) (j : Nat) : (mkB l).extract j (mkB l).size = mkB (l.drop j) := L_inj (by rw [L_extract, L_size]; simp)
theorem eq_iff_L {a b : ByteArray} : a = b ↔ L a = L b := ⟨fun h => h ▸ rfl, L_inj⟩

/-- A text's lines, a line's beginning in hand. -/
def linesA : BL → BL → List BL
  | acc, [] => if acc = [] then [] else [acc]
  | acc, b :: r => if b = 10 then (acc ++ [b]) :: linesA [] r else linesA (acc ++ [b]) r
def lines (s : BL) : List BL := linesA [] s
theorem linesA_app (acc l r : BL) (h : 10 ∉ l) : linesA acc (l ++ r) = linesA (acc ++ l) r := by
  induction l generalizing acc with
  | nil => simp
  | cons b l ih =>
    simp only [List.mem_cons, not_or] at h
    rw [List.cons_append, linesA, if_neg (fun e => h.1 e.symm), ih _ h.2]
    simp
theorem linesA_line (acc l r : BL) (h : 10 ∉ l) : linesA acc (l ++ 10 :: r) = (acc ++ l ++ [10]) :: lines r := by
  rw [linesA_app _ _ _ h, linesA, if_pos rfl]; rfl
theorem linesA_last (acc l : BL) (h : 10 ∉ l) : linesA acc l = if acc ++ l = [] then [] else [acc ++ l] := by
  have := linesA_app acc l [] h
  rw [List.append_nil] at this
  rw [this, linesA]

theorem indexByte_spec (l : BL) (x : UInt8) : (Lib.indexByte l x = -1 ∧ x ∉ l) ∨ ∃ i : Nat, Lib.indexByte l x = (i : Int) ∧ i < l.length ∧ x ∉ l.take i ∧ l = l.take i ++ x :: l.drop (i + 1) := by
  induction l with
  | nil => left; exact ⟨rfl, by simp⟩
  | cons b l ih =>
    unfold Lib.indexByte
    by_cases hb : b = x
    · subst hb
      right
      exact ⟨0, by simp, by simp, by simp, by simp⟩
    · have hb' : (b == x) = false := by simpa using hb
      rw [if_neg (by rw [hb']; simp)]
      rcases ih with ⟨h1, h2⟩ | ⟨i, h1, h2, h3, h4⟩
      · left
        rw [h1]
        exact ⟨by simp, by simp [h2, Ne.symm hb]⟩
      · right
        refine ⟨i + 1, ?_, by simp; omega, ?_, ?_⟩
        · rw [h1, if_neg (by simp)]; omega
        · simp [h3, Ne.symm hb]
        · simp only [List.take_succ_cons, List.cons_append, List.drop_succ_cons, ← h4]

theorem lines_cut {rest : BL} {i : Nat} (hn : 10 ∉ rest.take i) (hd : rest = rest.take i ++ 10 :: rest.drop (i + 1)) : lines rest = (rest.take i ++ [10]) :: lines (rest.drop (i + 1)) :=
  (congrArg lines hd).trans (linesA_line [] _ _ hn)
theorem take_cut {rest : BL} {i : Nat} (hi : i < rest.length) (hd : rest = rest.take i ++ 10 :: rest.drop (i + 1)) : rest.take (i + 1) = rest.take i ++ [10] := by
  have hx : (rest.take i ++ 10 :: rest.drop (i + 1))[i]? = some 10 := by
    rw [List.getElem?_append_right (by simp; omega)]
    simp [show min i rest.length = i by omega]
  rw [← hd] at hx
  rw [List.take_add_one, hx]; rfl

/-! ### Package strings -/
end Go.Proofs.YtbpbgkpkkklipaaGreat
namespace Go.Proofs.YtbpbgkpkkklipaaGreat
open Go.V
/-! ### Lines -/
theorem linesA_len (acc l : BL) : (linesA acc l).length ≤ l.length + (if acc = [] then 0 else 1) := by
  induction l generalizing acc with
  | nil => unfold linesA; split <;> simp
  | cons b l ih =>
    unfold linesA
    split
    · have := ih []
      simp at this ⊢
      omega
    · have := ih (acc ++ [b])
      simp at this ⊢
      omega
theorem lines_len (l : BL) : (lines l).length ≤ l.length := by have := linesA_len [] l; simpa [lines] using this
def sv (l : BL) : Value := .string (mkB l)

theorem sl_map {α β : Type} {f : α → Value} {g : β → α} {H : Hp} {p : Option Addr} {l c' : Nat} {xs : List β} : Sl f H p l c' (xs.map g) ↔ Sl (fun x => f (g x)) H p l c' xs := by
  unfold Sl
  simp
end Go.Proofs.YtbpbgkpkkklipaaGreat
namespace Go.Proofs.YtbpbgkpkkklipaaGreat
open Go.V
/-! ### Join -/
theorem sv_size (x : BL) : (mkB x).size = x.length := rfl
theorem flat_take {xs : List BL} {i : Nat} (h : i < xs.length) : (xs.take (i + 1)).flatten = (xs.take i).flatten ++ xs[i] := by
  rw [List.take_add_one, List.getElem?_eq_getElem h, List.flatten_append]
  simp only [Option.toList, List.flatten_cons, List.flatten_nil, List.append_nil]
theorem flat_one {xs : List BL} (h : 0 < xs.length) : (xs.take 1).flatten = xs[0] := by rw [flat_take (i := 0) h]; rfl
theorem flat_le {xs : List BL} (i : Nat) : (xs.take i).flatten.length ≤ xs.flatten.length := by
  conv => rhs; rw [← List.take_append_drop i xs, List.flatten_append, List.length_append]
  omega
theorem mkB_nil : mkB [] = bs [] := rfl
/-- A slice of texts: one of them. -/
theorem slT {H : Hp} {p : Option Addr} {l c' : Nat} {xs : List BL} (h : Sl sv H p l c' xs) {i : Int} {F : ByteArray → Prop} (h0 : 0 ≤ i) (hi : i < l) (hF : (hi : i.toNat < xs.length) → F (mkB xs[i.toNat])) : IDX i l fun j => NIL p fun b o => ldS (rd H b (o + j)) F :=
  sl_nil h h0 hi fun _ _ hi e => ⟨_, e, hF hi⟩
/-! ### Is -/
/-- Are lines a text's? -/
def isL : List BL → Bool
  | [] => true
  | l :: r => decide (l ≠ [] ∧ 10 ∉ l.dropLast ∧ (r = [] ∨ l.getLast? = some 10)) && isL r
theorem isL_lines (acc l : BL) (h : 10 ∉ acc) : isL (linesA acc l) = true := by
  induction l generalizing acc with
  | nil =>
    unfold linesA
    split
    · rfl
    · rename_i h1
      simp only [isL, Bool.and_true, decide_eq_true_eq, true_or, and_true]
      exact ⟨h1, fun h2 => h (List.dropLast_subset _ h2)⟩
  | cons b l ih =>
    unfold linesA
    split
    · rename_i hb
      subst hb
      simp only [isL, ih [] (by simp), Bool.and_true, decide_eq_true_eq]
      exact ⟨by simp, by simpa using h, .inr (by simp)⟩
    · rename_i hb
      exact ih _ (by simp [h, Ne.symm hb])
theorem lines_of_is : ∀ (xs : List BL), isL xs = true → lines xs.flatten = xs
  | [], _ => rfl
  | l :: r, h => by
    simp only [isL, Bool.and_eq_true, decide_eq_true_eq] at h
    obtain ⟨⟨h1, h2, h3⟩, h4⟩ := h
    have ih := lines_of_is r h4
    by_cases hl : l.getLast? = some 10
    · obtain ⟨m, rfl⟩ := List.getLast?_eq_some_iff.1 hl
      rw [List.dropLast_concat] at h2
      rw [List.flatten_cons, List.append_assoc, List.singleton_append, lines, linesA_line _ _ _ h2, ih]
      simp
    · rcases h3 with h3 | h3
      · subst h3
        have h5 : 10 ∉ l := fun h5 => by
          rw [← List.dropLast_concat_getLast h1] at h5
          rcases List.mem_append.1 h5 with h5 | h5
          · exact h2 h5
          · simp at h5
            exact hl (by rw [List.getLast?_eq_some_getLast h1, h5])
        simp [lines, linesA_last _ _ h5, h1]
      · exact absurd h3 hl
theorem flat_lines (acc l : BL) : (linesA acc l).flatten = acc ++ l := by
  induction l generalizing acc with
  | nil => unfold linesA; split <;> simp_all
  | cons b l ih =>
    unfold linesA
    split
    · rw [List.flatten_cons, ih]; simp
    · rw [ih]; simp
theorem is_iff (xs : List BL) : isL xs = decide (lines xs.flatten = xs) := by
  by_cases h : lines xs.flatten = xs
  · rw [decide_eq_true h, ← h]
    exact isL_lines [] _ (by simp)
  · rw [decide_eq_false h]
    cases hh : isL xs with
    | false => rfl
    | true => exact absurd (lines_of_is xs hh) h
/-- One of the lines, as a program asks it. -/
def okL (l : BL) (last : Bool) : Bool := !(decide (l = []) || (decide (0 ≤ Lib.indexByte l 10) && decide (Lib.indexByte l 10 < (l.length : Int) - 1)) || (decide (Lib.indexByte l 10 < 0) && !last))
theorem okL_eq (l : BL) (last : Bool) : okL l last = decide (l ≠ [] ∧ 10 ∉ l.dropLast ∧ (last = true ∨ l.getLast? = some 10)) := by
  by_cases h0 : l = []
  · subst h0; simp [okL]
  · have hpos : 0 < l.length := List.length_pos_iff.2 h0
    unfold okL
    rcases indexByte_spec l 10 with ⟨e, hn⟩ | ⟨i, e, hi, hn, hd⟩
    · have h1 : 10 ∉ l.dropLast := fun h => hn (List.dropLast_subset _ h)
      have h2 : l.getLast? ≠ some 10 := fun h => hn (List.mem_of_getLast? h)
      rw [e]
      cases last <;> simp [h0, h1, h2]
    · rw [e]
      by_cases hil : i = l.length - 1
      · have e1 : l.take i ++ [10] = l := by rw [← take_cut hi hd, List.take_of_length_le (by omega)]
        have h1 : 10 ∉ l.dropLast := by rw [← e1, List.dropLast_concat]; exact hn
        have h2 : l.getLast? = some 10 := by rw [← e1]; simp
        have h3 : ¬ ((i : Int) < (l.length : Int) - 1) := by omega
        simp [h0, h1, h2, h3]
      · have h1 : 10 ∈ l.dropLast := by
          have : l[i]? = some 10 := by
            have := take_cut hi hd
            have h5 : (l.take (i + 1))[i]? = some 10 := by rw [this, List.getElem?_append_right (by simp; omega)]; simp [show min i l.length = i by omega]
            rwa [List.getElem?_take_of_lt (by omega)] at h5
          have h6 : l.dropLast[i]? = some 10 := by rw [List.getElem?_dropLast, if_pos (by omega)]; exact this
          exact List.mem_of_getElem? h6
        have h3 : (i : Int) < (l.length : Int) - 1 := by omega
        simp [h0, h1, h3]
theorem isL_drop {xs : List BL} {i : Nat} (h : i < xs.length) : isL (xs.drop i) = (okL xs[i] (decide (i + 1 = xs.length)) && isL (xs.drop (i + 1))) := by
  rw [List.drop_eq_getElem_cons h, isL, okL_eq]
  congr 1
  apply decide_eq_decide.2
  rw [decide_eq_true_eq]
  have : xs.drop (i + 1) = [] ↔ i + 1 = xs.length := by rw [List.drop_eq_nil_iff]; omega
  rw [this]
end Go.Proofs.YtbpbgkpkkklipaaGreat
namespace Go.Proofs.YtbpbgkpkkklipaaGreat
open Go.V
/-! ### Fits -/
def fitsL (xs : List BL) : Bool := decide (xs.length ≤ 40 ∧ ∀ x ∈ xs, x.length ≤ 60)
/-! ### The document's lines -/
theorem getD_L {s : ByteArray} {k : Nat} (h : k < s.size) : s.data.toList.getD k 0 = (L s)[k]'(by rw [← L_size]; exact h) := by
  have : k < (L s).length := by rw [← L_size]; exact h
  show (L s).getD k 0 = _
  simp [List.getD, this]
theorem u8_eq {a b : UInt8} : ((a.toNat : Nat) : Int) = ((b.toNat : Nat) : Int) ↔ a = b := by
  constructor
  · intro h
    exact UInt8.toNat_inj.1 (by omega)
  · rintro rfl; rfl
theorem centoref10_Lines.c {s : ByteArray} {H : Hp} {K : Option Addr → Nat → Nat → Hp → Prop} (hs : s.size ≤ 1000000000) (hK : ∀ p l c' H', Sl sv H' p l c' (lines (L s)) → Le H H' → PtOk p → New H p → K p l c' H') : centoref10_Lines.C s H K := by
  apply centoref10_Lines.of
  have hsz := L_size s
  refine ⟨fun p l c' f i H' => 0 ≤ f ∧ f ≤ i ∧ i ≤ s.size ∧ ∃ done, Buf 1 H H' p l c' (done.map sv) ∧ Le H H' ∧ done ++ linesA (((L s).take i.toNat).drop f.toNat) ((L s).drop i.toNat) = lines (L s), fun _ _ _ _ i _ => ((s.size : Int) - i).toNat, ⟨by omega, by omega, by omega, [], Buf.none, Le.refl _, by simp [lines]⟩, ?_⟩
  rintro p l c' f i H1 ⟨g0, g1, g2, done, hB, hle, he⟩
  have hll := lines_len (L s)
  have hl : l = done.length := by have := hB.1; simp at this; omega
  have hd1 : done.length ≤ (lines (L s)).length := by rw [← he]; simp
  refine bcd (fun h => ?_) (fun h => ?_)
  · refine idxN i.toNat (by omega) (by omega) ?_
    rw [getD_L (by omega)]
    have hi : i.toNat < (L s).length := by omega
    have hdrop : (L s).drop i.toNat = (L s)[i.toNat] :: (L s).drop (i.toNat + 1) := List.drop_eq_getElem_cons hi
    have htake : ((L s).take (i.toNat + 1)).drop f.toNat = ((L s).take i.toNat).drop f.toNat ++ [(L s)[i.toNat]] := by
      rw [List.take_add_one, List.getElem?_eq_getElem hi, List.drop_append_of_le_length (by simp; omega)]; rfl
    rw [hdrop, linesA] at he
    refine bcd (fun h1 => ?_) (fun h1 => ?_)
    · have h10 : (L s)[i.toNat] = 10 := u8_eq.1 h1
      rw [if_pos h10, ← htake] at he
      refine chk (by omega) (bnd11 f.toNat (i.toNat + 1) (by omega) (by omega) (by omega) (by omega) ?_)
      have e1 : s.extract f.toNat (i.toNat + 1) = mkB (((L s).take (i.toNat + 1)).drop f.toNat) := L_inj (by rw [L_extract, L_mk])
      rw [e1]
      have hd2 : done.length + 1 ≤ (lines (L s)).length := by rw [← he]; simp
      refine hB.app1 hle rfl (by decide) rfl (by decide) rfl rfl (by show (l + 1) * 16 ≤ _; omega) fun p' c'' H' hB' hle' _ => ?_
      refine chk (by omega) (chk (by omega) ⟨⟨by omega, by omega, by omega, done ++ [((L s).take (i.toNat + 1)).drop f.toNat], ?_, hle', ?_⟩, by dsimp only; omega⟩)
      · rw [List.map_append]; exact hB'
      · rw [show (i + 1).toNat = i.toNat + 1 by omega, show ((L s).take (i.toNat + 1)).drop (i.toNat + 1) = [] from List.drop_of_length_le (by simp; omega), List.append_assoc]
        exact he
    · have h10 : (L s)[i.toNat] ≠ 10 := fun e => h1 (u8_eq.2 e)
      rw [if_neg h10, ← htake] at he
      refine chk (by omega) ⟨⟨by omega, by omega, by omega, done, hB, hle, ?_⟩, by dsimp only; omega⟩
      rw [show (i + 1).toNat = i.toNat + 1 by omega]
      exact he
  · have hi : i.toNat = (L s).length := by omega
    rw [hi, List.take_length, List.drop_length, linesA] at he
    refine bcd (fun h1 => ?_) (fun h1 => ?_)
    · refine bnd10 f.toNat (by omega) (by omega) ?_
      have e1 : s.extract f.toNat s.size = mkB ((L s).drop f.toNat) := L_inj (by rw [L_extract, L_mk, hsz, List.take_length])
      rw [if_neg (by rw [List.drop_eq_nil_iff]; omega)] at he
      rw [e1]
      have hd2 : done.length + 1 ≤ (lines (L s)).length := by rw [← he]; simp
      refine hB.app1 hle rfl (by decide) rfl (by decide) rfl rfl (by show (l + 1) * 16 ≤ _; omega) fun p' c'' H' hB' hle' _ => ?_
      have hB'' : Buf 1 H H' p' (l + 1) c'' ((done ++ [(L s).drop f.toNat]).map sv) := by rw [List.map_append]; exact hB'
      rw [he] at hB''
      exact hK p' (l + 1) c'' H' hB''.sl hle' hB''.pt hB''.fr
    · rw [if_pos (by rw [List.drop_eq_nil_iff]; omega), List.append_nil] at he
      rw [he] at hB
      exact hK p l c' H1 hB.sl hle hB.pt hB.fr
/-! ### What the statements use -/
end Go.Proofs.YtbpbgkpkkklipaaGreat
namespace Go.Proofs.YtbpbgkpkkklipaaGreat
open Go.V
/-! ### Sorts: texts -/
theorem mkB_list (x : BL) : (mkB x).toList = x := ByteArray.toList_eq _
theorem rdT {H : Hp} {p : Option Addr} {l : Nat} {d : Array BL} (h : A1 sv H p l d) (k : Nat) {e : Int} (he : e = (k : Int)) (hk : k < d.size) {F : ByteArray → Prop} (hF : F (mkB d[k]!)) : IDX e l fun k => NIL p fun b o => ldS (rd H b (o + k)) F := A1.S (g := mkB) h (fun _ => rfl) k he hk hF
theorem swT {H : Hp} {p : Option Addr} {l : Nat} {d : Array BL} (h : A1 sv H p l d) {i j : Nat} {ei ej : Int} (hi : i < d.size) (hj : j < d.size) (hei : ei = (i : Int)) (hej : ej = (j : Int)) {F : Hp → Prop}
    (hF : ∀ H', A1 sv H' p l (Sort.swp d i j) → Mod (blkL p) H H' → F H') : IDX ei l fun k => NIL p fun b o => ST H b (o + k) (.string (mkB d[j]!)) fun H1 => IDX ej l fun k => NIL p fun b o => ST H1 b (o + k) (.string (mkB d[i]!)) F := A1.sw h (fun _ => rfl) hi hj hei hej hF
section
variable {H : Hp} {p : Option Addr} {l cc : Nat} {d : Array BL}
end
section
variable {H : Hp} {p : Option Addr} {l cc : Nat} {d : Array BL}
end
end Go.Proofs.YtbpbgkpkkklipaaGreat
namespace Go.Proofs.YtbpbgkpkkklipaaGreat
open Go.V
/-! ### Rows that rise -/
def cmp3 {α : Type} (lt : α → α → Bool) (x y : α) : Int := if lt x y then -1 else if lt y x then 1 else 0
theorem cmp3_ge {α : Type} {lt : α → α → Bool} {x y : α} (h : 0 ≤ cmp3 lt x y) : lt x y = false := by
  unfold cmp3 at h
  cases e : lt x y with
  | false => rfl
  | true => rw [e, if_pos rfl] at h; omega
theorem cmp3_lt {α : Type} {lt : α → α → Bool} {x y : α} (h : cmp3 lt x y < 0) : lt x y = true := by
  unfold cmp3 at h
  cases e : lt x y with
  | true => rfl
  | false =>
    rw [e, if_neg (by decide)] at h
    split at h <;> omega
def rsB {α : Type} (lt : α → α → Bool) : List α → Bool
  | a :: b :: r => lt a b && rsB lt (b :: r)
  | _ => true
theorem rsB_iff {α : Type} {lt : α → α → Bool} : ∀ {xs : List α}, rsB lt xs = true ↔ ∀ i (h : i + 1 < xs.length), lt xs[i] xs[i + 1] = true
  | [] => by simp [rsB]
  | [a] => by simp [rsB]
  | a :: b :: r => by
    rw [rsB, Bool.and_eq_true, rsB_iff (xs := b :: r)]
    constructor
    · rintro ⟨h1, h2⟩ i h
      cases i with
      | zero => exact h1
      | succ i => exact h2 i (by simpa using h)
    · intro h
      exact ⟨h 0 (by simp), fun i hi => h (i + 1) (by simpa using hi)⟩
theorem rsB_one {α : Type} {lt : α → α → Bool} {xs : List α} (h : xs.length ≤ 1) : rsB lt xs = true := rsB_iff.2 fun i hi => by omega
theorem rsB_bad {α : Type} {lt : α → α → Bool} {xs : List α} {i : Nat} (hi : i < xs.length) (h1 : 1 ≤ i) (h : lt (xs[i - 1]'(by omega)) xs[i] = false) : rsB lt xs = false := by
  cases e : rsB lt xs with
  | false => rfl
  | true =>
    have := rsB_iff.1 e (i - 1) (by omega)
    simp only [show i - 1 + 1 = i by omega] at this
    rw [this] at h; cases h
theorem rsB_next {α : Type} {lt : α → α → Bool} {xs : List α} {i : Nat} (hi : i < xs.length) (h1 : 1 ≤ i) (hr : rsB lt (xs.take i) = true) (h : lt (xs[i - 1]'(by omega)) xs[i] = true) : rsB lt (xs.take (i + 1)) = true := by
  rw [rsB_iff] at hr ⊢
  intro j hj
  rw [List.length_take] at hj
  simp only [List.getElem_take]
  by_cases e : j + 1 = i
  · have : j = i - 1 := by omega
    subst this
    simp only [show i - 1 + 1 = i by omega]
    exact h
  · have := hr j (by rw [List.length_take]; omega)
    simpa only [List.getElem_take] using this
theorem rsB_pw {α : Type} {lt : α → α → Bool} (ht : ∀ x y z, lt x y = true → lt y z = true → lt x z = true) : ∀ {xs : List α}, rsB lt xs = true ↔ xs.Pairwise fun a b => lt a b = true
  | [] => by simp [rsB]
  | [a] => by simp [rsB]
  | a :: b :: r => by
    rw [rsB, Bool.and_eq_true, rsB_pw ht (xs := b :: r)]
    constructor
    · rintro ⟨h1, h2⟩
      refine List.pairwise_cons.2 ⟨fun x hx => ?_, h2⟩
      rcases List.mem_cons.1 hx with rfl | hx
      · exact h1
      · exact ht _ _ _ h1 ((List.pairwise_cons.1 h2).1 x hx)
    · intro h
      obtain ⟨h1, h2⟩ := List.pairwise_cons.1 h
      exact ⟨h1 b (by simp), h2⟩
/-- Each once, of neighbours that are alike. -/
def ddTo {α : Type} [DecidableEq α] (xs : List α) : Nat → List α
  | 0 => []
  | j + 1 => if 0 < j ∧ xs[j]? = xs[j - 1]? then ddTo xs j else ddTo xs j ++ (xs[j]?).toList
section
variable {α : Type} [DecidableEq α]
theorem ddTo_len (xs : List α) : ∀ j, (ddTo xs j).length ≤ j
  | 0 => Nat.le_refl _
  | j + 1 => by
    have := ddTo_len xs j
    unfold ddTo
    split
    · omega
    · rw [List.length_append]
      have : ((xs[j]?).toList).length ≤ 1 := by cases xs[j]? <;> simp
      omega
theorem ddTo_mem (xs : List α) : ∀ j, j ≤ xs.length → ∀ x, x ∈ ddTo xs j ↔ x ∈ xs.take j
  | 0, _, x => by simp [ddTo]
  | j + 1, hj, x => by
    have hj' : j < xs.length := by omega
    have ih := ddTo_mem xs j (by omega) x
    rw [List.take_succ_eq_append_getElem hj', List.mem_append, List.mem_singleton]
    unfold ddTo
    split
    · rename_i h
      rw [ih]
      refine ⟨.inl, fun h' => h'.elim id fun e => ?_⟩
      have h2 : j - 1 < xs.length := by omega
      rw [List.getElem?_eq_getElem hj', List.getElem?_eq_getElem h2] at h
      rw [e, Option.some.inj h.2]
      exact List.mem_iff_getElem.2 ⟨j - 1, by rw [List.length_take]; omega, by rw [List.getElem_take]⟩
    · rw [List.getElem?_eq_getElem hj', List.mem_append, ih]; simp
theorem ddTo_pw {lt : α → α → Bool} (ha : ∀ x y, lt x y = false → lt y x = false → x = y) {xs : List α} (hs : xs.Pairwise fun a b => lt b a = false) : ∀ j, j ≤ xs.length → (ddTo xs j).Pairwise fun a b => lt a b = true
  | 0, _ => by simp [ddTo]
  | j + 1, hj => by
    have hj' : j < xs.length := by omega
    have ih := ddTo_pw ha hs j (by omega)
    unfold ddTo
    split
    · exact ih
    · rename_i h
      rw [List.getElem?_eq_getElem hj']
      refine List.pairwise_append.2 ⟨ih, by simp, fun y hy z hz => ?_⟩
      simp at hz; subst hz
      rw [ddTo_mem xs j (by omega)] at hy
      obtain ⟨t, ht, rfl⟩ := List.mem_iff_getElem.1 hy
      rw [List.length_take] at ht
      rw [List.getElem_take]
      have hg := List.pairwise_iff_getElem.1 hs
      cases e : lt xs[t] xs[j] with
      | true => rfl
      | false =>
        have e1 := ha _ _ e (hg t j (by omega) hj' (by omega))
        have e2 : lt (xs[j - 1]'(by omega)) xs[j] = false := by
          by_cases ht1 : t = j - 1
          · simp only [← ht1]; exact e
          · have := hg t (j - 1) (by omega) (by omega) (by omega)
            rw [e1] at this; exact this
        have e3 := hg (j - 1) j (by omega) hj' (by omega)
        have e4 := ha _ _ e2 e3
        exact absurd ⟨by omega, by rw [List.getElem?_eq_getElem hj', List.getElem?_eq_getElem (show j - 1 < xs.length by omega), e4]⟩ h
/-- Into a rising row. -/
def putL (lt : α → α → Bool) (l : List α) (x : α) : List α := if x ∈ l then l else l.takeWhile (fun y => lt y x) ++ x :: l.dropWhile fun y => lt y x
def uniqL (lt : α → α → Bool) (zs : List α) : List α := zs.foldl (putL lt) []
theorem putL_mem {lt : α → α → Bool} {l : List α} {x y : α} : y ∈ putL lt l x ↔ y ∈ l ∨ y = x := by
  unfold putL
  split
  · rename_i h
    exact ⟨.inl, fun h' => h'.elim id fun e => e ▸ h⟩
  · conv => rhs; rw [← List.takeWhile_append_dropWhile (p := fun y => lt y x) (l := l)]
    simp only [List.mem_append, List.mem_cons]
    constructor
    · rintro (h | h | h)
      · exact .inl (.inl h)
      · exact .inr h
      · exact .inl (.inr h)
    · rintro ((h | h) | h)
      · exact .inl h
      · exact .inr (.inr h)
      · exact .inr (.inl h)
omit [DecidableEq α] in
theorem mem_dropWhile_not {lt : α → α → Bool} {x : α} (ht : ∀ x y z, lt x y = true → lt y z = true → lt x z = true) : ∀ {l : List α}, l.Pairwise (fun a b => lt a b = true) → ∀ y ∈ l.dropWhile (fun y => lt y x), lt y x = false
  | [], _, y, h => by simp at h
  | a :: l, hp, y, h => by
    obtain ⟨h1, h2⟩ := List.pairwise_cons.1 hp
    cases e : lt a x with
    | true =>
      rw [List.dropWhile_cons_of_pos (by exact e)] at h
      exact mem_dropWhile_not ht h2 y h
    | false =>
      rw [List.dropWhile_cons_of_neg (by rw [e]; decide)] at h
      rcases List.mem_cons.1 h with rfl | h
      · exact e
      · cases e' : lt y x with
        | false => rfl
        | true => rw [ht _ _ _ (h1 y h) e'] at e; cases e
omit [DecidableEq α] in
theorem mem_takeWhile_lt {lt : α → α → Bool} {x : α} : ∀ {l : List α}, ∀ y ∈ l.takeWhile (fun y => lt y x), lt y x = true
  | [], y, h => by simp at h
  | a :: l, y, h => by
    cases e : lt a x with
    | true =>
      rw [List.takeWhile_cons_of_pos (by exact e)] at h
      rcases List.mem_cons.1 h with rfl | h
      · exact e
      · exact mem_takeWhile_lt y h
    | false => rw [List.takeWhile_cons_of_neg (by rw [e]; decide)] at h; cases h
theorem putL_pw {lt : α → α → Bool} (ht : ∀ x y z, lt x y = true → lt y z = true → lt x z = true) (ha : ∀ x y, lt x y = false → lt y x = false → x = y) {l : List α} {x : α} (h : l.Pairwise fun a b => lt a b = true) : (putL lt l x).Pairwise fun a b => lt a b = true := by
  unfold putL
  split
  · exact h
  · rename_i hx
    have h2 := h
    rw [← List.takeWhile_append_dropWhile (p := fun y => lt y x) (l := l)] at h2
    obtain ⟨p1, p2, p3⟩ := List.pairwise_append.1 h2
    have hgt : ∀ y ∈ l.dropWhile (fun y => lt y x), lt x y = true := fun y hy => by
      cases e : lt x y with
      | true => rfl
      | false => exact absurd (ha _ _ e (mem_dropWhile_not ht h y hy)) fun e => hx (by rw [e]; exact (List.dropWhile_sublist _).subset hy)
    refine List.pairwise_append.2 ⟨p1, List.pairwise_cons.2 ⟨hgt, p2⟩, fun a ha' b hb => ?_⟩
    rcases List.mem_cons.1 hb with rfl | hb
    · exact mem_takeWhile_lt a ha'
    · exact p3 a ha' b hb
theorem uniqL_snoc {lt : α → α → Bool} {zs : List α} {x : α} : uniqL lt (zs ++ [x]) = putL lt (uniqL lt zs) x := by unfold uniqL; rw [List.foldl_append]; rfl
theorem foldl_put_mem {lt : α → α → Bool} : ∀ (zs l : List α) (y : α), y ∈ zs.foldl (putL lt) l ↔ y ∈ l ∨ y ∈ zs
  | [], l, y => by simp
  | z :: zs, l, y => by
    rw [List.foldl_cons, foldl_put_mem zs, putL_mem, List.mem_cons]
    constructor
    · rintro ((h | h) | h)
      · exact .inl h
      · exact .inr (.inl h)
      · exact .inr (.inr h)
    · rintro (h | h | h)
      · exact .inl (.inl h)
      · exact .inl (.inr h)
      · exact .inr h
theorem uniqL_mem {lt : α → α → Bool} {zs : List α} {y : α} : y ∈ uniqL lt zs ↔ y ∈ zs := by unfold uniqL; rw [foldl_put_mem]; simp
theorem foldl_put_pw {lt : α → α → Bool} (ht : ∀ x y z, lt x y = true → lt y z = true → lt x z = true) (ha : ∀ x y, lt x y = false → lt y x = false → x = y) : ∀ (zs l : List α), l.Pairwise (fun a b => lt a b = true) → (zs.foldl (putL lt) l).Pairwise fun a b => lt a b = true
  | [], _, h => h
  | z :: zs, l, h => by rw [List.foldl_cons]; exact foldl_put_pw ht ha zs _ (putL_pw ht ha h)
theorem uniqL_pw {lt : α → α → Bool} (ht : ∀ x y z, lt x y = true → lt y z = true → lt x z = true) (ha : ∀ x y, lt x y = false → lt y x = false → x = y) {zs : List α} : (uniqL lt zs).Pairwise fun a b => lt a b = true := foldl_put_pw ht ha zs [] List.Pairwise.nil
/-- Sorted, each once. -/
theorem dd_uniq {lt : α → α → Bool} (hi : ∀ x, lt x x = false) (ht : ∀ x y z, lt x y = true → lt y z = true → lt x z = true) (ha : ∀ x y, lt x y = false → lt y x = false → x = y) {ys zs : List α} (hp : ys.Perm zs) (hs : ys.Pairwise fun a b => lt b a = false) : ddTo ys ys.length = uniqL lt zs :=
  sorted_lt_mem hi ha ht (ddTo_pw ha hs _ (Nat.le_refl _)) (uniqL_pw ht ha) fun x => by rw [ddTo_mem ys _ (Nat.le_refl _), List.take_length, uniqL_mem, hp.mem_iff]
end
theorem rd_wrN_lt (b : Nat) : ∀ (l : List Value) (o : Nat) (H : Hp) (t : Nat), t < o → rd (wrN H b o l) b t = rd H b t
  | [], _, _, _, _ => rfl
  | v :: l, o, H, t, h => by rw [wrN, rd_wrN_lt b l (o + 1) _ t (by omega), rd_wr_off (by omega)]
/-! ### Lines' numbers, edges -/
structure Lid where
  p : Int
  n : Int
  deriving DecidableEq
structure Ed where
  a : Lid
  b : Lid
  deriving DecidableEq
def lidC (x : Lid) : List Value := [.int .u32 x.p, .int .i64 x.n]
def edC (x : Ed) : List Value := [.int .u32 x.a.p, .int .i64 x.a.n, .int .u32 x.b.p, .int .i64 x.b.n]
theorem lidC_len (x : Lid) : (lidC x).length = 2 := rfl
theorem edC_len (x : Ed) : (edC x).length = 4 := rfl
section
variable {H : Hp} {p : Option Addr} {l c : Nat}
theorem rsU {xs : List Int} (h : Sl fU H p l c xs) {k : Nat} {e : Int} (he : e = (k : Int)) (hk : k < xs.length) {F : Int → Prop} (hF : F xs[k]) : IDX e l fun k => NIL p fun b o => ldI .u32 (rd H b (o + k)) F := by
  have hl := h.len
  obtain ⟨b, o, rfl, hh⟩ := h.at hk
  exact idxN k he (by omega) (nil (ldI_i (hh k hk) hF))
theorem rsT {xs : List BL} (h : Sl sv H p l c xs) {k : Nat} {e : Int} (he : e = (k : Int)) (hk : k < xs.length) {F : ByteArray → Prop} (hF : F (mkB xs[k])) : IDX e l fun k => NIL p fun b o => ldS (rd H b (o + k)) F := by
  have hl := h.len
  obtain ⟨b, o, rfl, hh⟩ := h.at hk
  exact idxN k he (by omega) (nil (ldS_i (hh k hk) hF))
theorem rsL {xs : List Lid} (h : Sn 2 lidC H p l c xs) {k : Nat} {e : Int} (he : e = (k : Int)) (hk : k < xs.length) {F : Int → Int → Prop} (hF : F xs[k].p xs[k].n) : IDX e l fun k => NIL p fun b o => ldI .u32 (rd H b (o + (k * 2))) fun x => ldI .i64 (rd H b ((o + (k * 2)) + 1)) fun y => F x y := by
  have hl := h.len
  obtain ⟨b, o, rfl, hh⟩ := h.at hk
  exact idxN k he (by omega) (nil (ldI_i (hh k hk 0 _ rfl) (ldI_i (hh k hk 1 _ rfl) hF)))
theorem rsE {xs : List Ed} (h : Sn 4 edC H p l c xs) {k : Nat} {e : Int} (he : e = (k : Int)) (hk : k < xs.length) {F : Int → Int → Int → Int → Prop} (hF : F xs[k].a.p xs[k].a.n xs[k].b.p xs[k].b.n) : IDX e l fun k => NIL p fun b o => ldI .u32 (rd H b (o + (k * 4))) fun x => ldI .i64 (rd H b ((o + (k * 4)) + 1)) fun y => ldI .u32 (rd H b (((o + (k * 4)) + 1) + 1)) fun z => ldI .i64 (rd H b ((((o + (k * 4)) + 1) + 1) + 1)) fun w => F x y z w := by
  have hl := h.len
  obtain ⟨b, o, rfl, hh⟩ := h.at hk
  exact idxN k he (by omega) (nil (ldI_i (hh k hk 0 _ rfl) (ldI_i (hh k hk 1 _ rfl) (ldI_i (hh k hk 2 _ rfl) (ldI_i (hh k hk 3 _ rfl) hF)))))
end
theorem mkB_eq {x y : BL} (h : mkB x = mkB y) : x = y := congrArg L h
theorem eqId {α : Type} {x y : α} (h : x = y) : x = y := h
theorem neL {x y : Lid} {A B : Prop} (h : ¬ x = y → A) (h' : x = y → B) : bc (!(decide (x.p = y.p) && decide (x.n = y.n))) A B := by
  have e : (decide (x.p = y.p) && decide (x.n = y.n)) = decide (x = y) := by
    obtain ⟨a, b⟩ := x
    obtain ⟨c, d⟩ := y
    rw [Bool.eq_iff_iff]; simp
  rw [e]
  exact bcn (fun hh => h (of_decide_eq_false hh)) fun hh => h' (of_decide_eq_true hh)
theorem neE {x y : Ed} {A B : Prop} (h : ¬ x = y → A) (h' : x = y → B) : bc (!((decide (x.a.p = y.a.p) && decide (x.a.n = y.a.n)) && (decide (x.b.p = y.b.p) && decide (x.b.n = y.b.n)))) A B := by
  have e : ((decide (x.a.p = y.a.p) && decide (x.a.n = y.a.n)) && (decide (x.b.p = y.b.p) && decide (x.b.n = y.b.n))) = decide (x = y) := by
    obtain ⟨⟨a, b⟩, ⟨a', b'⟩⟩ := x
    obtain ⟨⟨c, d⟩, ⟨c', d'⟩⟩ := y
    rw [Bool.eq_iff_iff]; simp
  rw [e]
  exact bcn (fun hh => h (of_decide_eq_false hh)) fun hh => h' (of_decide_eq_true hh)
def edV (x : Ed) : Value := .agg ⟨edC x⟩
def lidV (x : Lid) : Value := .agg ⟨lidC x⟩
theorem bcdT {x y : BL} {A B : Prop} (h : ¬ x = y → A) (h' : x = y → B) : bc (decide (¬ mkB x = mkB y)) A B := bcd (fun hh => h fun e => hh (by rw [e])) fun hh => h' (mkB_eq (Classical.not_not.1 hh))
theorem bcdU {x y : Int} {A B : Prop} (h : ¬ x = y → A) (h' : x = y → B) : bc (decide (¬ x = y)) A B := bcd h fun hh => h' (Classical.not_not.1 hh)
section
variable {H : Hp} {p : Option Addr} {l cc : Nat} {xs : List Int}
theorem slices_IndexFunc_uint32_uint32.c {f : Value} {q : Int → Bool} {K : Int → Hp → Prop} (h : Sl fU H p l cc xs) (hl : l ≤ 1000000000) (hf : ∀ Hx x, x ∈ xs → ∀ K : Bool → Hp → Prop, Le H Hx → (∀ H', Le Hx H' → K (q x) H') → CallV prog f [.int .u32 x] Hx fun v H' => liftB v fun r => K r H')
    (hno : (∀ x ∈ xs, q x = false) → ∀ H', Le H H' → K (-1) H') (hyes : ∀ i (hi : i < xs.length), q xs[i] = true → (∀ j (hj : j < i), q (xs[j]'(by omega)) = false) → ∀ H', Le H H' → K (i : Nat) H') : slices_IndexFunc_uint32_uint32.C p l cc f H K := by
  apply slices_IndexFunc_uint32_uint32.of
  have el := h.len
  refine ⟨fun t Hx => ∃ i : Nat, t = (i : Nat) ∧ i ≤ l ∧ Le H Hx ∧ ∀ j (hj : j < xs.length), j < i → q xs[j] = false, fun t _ => ((l : Int) - t).toNat, ⟨0, rfl, Nat.zero_le _, Le.refl _, fun j _ h => absurd h (Nat.not_lt_zero _)⟩, ?_⟩
  rintro t Hx ⟨i, rfl, gi, lex, hj⟩
  refine bcd (fun hlt => ?_) fun hlt => hno (fun x hx => by
    obtain ⟨j, hj', rfl⟩ := List.mem_iff_getElem.1 hx
    exact hj j hj' (by omega)) Hx lex
  have hi : i < xs.length := by omega
  refine rsU (h.le lex) rfl hi (hf Hx _ (List.getElem_mem hi) _ lex fun H' le' => bc_i (fun hq => hyes i hi hq (fun j hj' => hj j (by omega) hj') H' (lex.trans le')) fun hq => ?_)
  refine chk (by omega) ⟨⟨i + 1, by omega, by omega, lex.trans le', fun j hj' hji => ?_⟩, by first | omega | (dsimp only; omega)⟩
  by_cases e : j = i
  · subst e; exact hq
  · exact hj j hj' (by omega)
theorem slices_ContainsFunc_uint32_uint32.c {f : Value} {q : Int → Bool} {K : Bool → Hp → Prop} (h : Sl fU H p l cc xs) (hl : l ≤ 1000000000) (hf : ∀ Hx x, x ∈ xs → ∀ K : Bool → Hp → Prop, Le H Hx → (∀ H', Le Hx H' → K (q x) H') → CallV prog f [.int .u32 x] Hx fun v H' => liftB v fun r => K r H')
    (hK : ∀ H', Le H H' → K (xs.any q) H') : slices_ContainsFunc_uint32_uint32.C p l cc f H K := by
  apply slices_ContainsFunc_uint32_uint32.of
  refine slices_IndexFunc_uint32_uint32.c h hl hf (fun hno H' le' => ?_) fun i hi hq _ H' le' => ?_
  · have e : xs.any q = false := by
      rw [List.any_eq_false]
      intro x hx; rw [hno x hx]; decide
    have := hK H' le'
    rw [e] at this; exact this
  · have e : xs.any q = true := List.any_eq_true.2 ⟨_, List.getElem_mem hi, hq⟩
    have := hK H' le'
    rw [e] at this
    rw [decide_eq_true (by omega)]; exact this
theorem slices_Index_uint32_uint32.c {v : Int} {K : Int → Hp → Prop} (h : Sl fU H p l cc xs) (hl : l ≤ 1000000000)
    (hno : v ∉ xs → K (-1) H) (hyes : ∀ i (hi : i < xs.length), xs[i] = v → K (i : Nat) H) : slices_Index_uint32_uint32.C p l cc ( v) H K := by
  apply slices_Index_uint32_uint32.of
  have el := h.len
  refine ⟨fun t Hx => ∃ i : Nat, t = (i : Nat) ∧ i ≤ l ∧ Hx = H ∧ ∀ j (hj : j < xs.length), j < i → xs[j] ≠ v, fun t _ => ((l : Int) - t).toNat, ⟨0, rfl, Nat.zero_le _, rfl, fun j _ h => absurd h (Nat.not_lt_zero _)⟩, ?_⟩
  rintro t Hx ⟨i, rfl, gi, rfl, hj⟩
  refine bcd (fun hlt => ?_) fun hlt => hno fun hx => by
    obtain ⟨j, hj', e⟩ := List.mem_iff_getElem.1 hx
    exact hj j hj' (by omega) e
  have hi : i < xs.length := by omega
  refine rsU h rfl hi (bcd (fun he => hyes i hi (eqId he).symm) fun he => ?_)
  refine chk (by omega) ⟨⟨i + 1, by omega, by omega, by trivial, fun j hj' hji => ?_⟩, by first | omega | (dsimp only; omega)⟩
  by_cases e : j = i
  · subst e; exact fun e => he (by rw [e])
  · exact hj j hj' (by omega)
theorem slices_Contains_uint32_uint32.c {v : Int} {K : Bool → Hp → Prop} (h : Sl fU H p l cc xs) (hl : l ≤ 1000000000) (hK : K (decide (v ∈ xs)) H) : slices_Contains_uint32_uint32.C p l cc ( v) H K := by
  apply slices_Contains_uint32_uint32.of
  refine slices_Index_uint32_uint32.c h hl (fun hno => ?_) fun i hi e => ?_
  · rw [decide_eq_false hno] at hK; exact hK
  · rw [decide_eq_true (by rw [← e]; exact List.getElem_mem hi)] at hK
    rw [decide_eq_true (by omega)]; exact hK
theorem slices_Equal_uint32_uint32.c {p2 : Option Addr} {l2 c2 : Nat} {ys : List Int} {K : Bool → Hp → Prop} (h : Sl fU H p l cc xs) (h2 : Sl fU H p2 l2 c2 ys) (hl : l ≤ 1000000000) (hK : K (decide (xs = ys)) H) : slices_Equal_uint32_uint32.C p l cc p2 l2 c2 H K := by
  apply slices_Equal_uint32_uint32.of
  have e1 := h.len
  have e2 := h2.len
  refine bcd (fun hne => ?_) fun hne => ?_
  · rw [decide_eq_false (fun e => by subst e; omega)] at hK; exact hK
  refine ⟨fun t Hx => ∃ i : Nat, t = (i : Nat) ∧ i ≤ l ∧ Hx = H ∧ xs.take i = ys.take i, fun t _ => ((l : Int) - t).toNat, ⟨0, rfl, Nat.zero_le _, rfl, rfl⟩, ?_⟩
  rintro t Hx ⟨i, rfl, gi, rfl, hj⟩
  refine bcd (fun hlt => ?_) fun hlt => ?_
  · have hi : i < xs.length := by omega
    have hi2 : i < ys.length := by omega
    refine rsU h rfl hi (rsU h2 rfl hi2 ?_)
    refine bcdU (fun he => ?_) fun he => ?_
    · rw [decide_eq_false (fun e => by subst e; exact he rfl)] at hK; exact hK
    · exact chk (by omega) ⟨⟨i + 1, by omega, by omega, by trivial, by rw [List.take_succ_eq_append_getElem hi, List.take_succ_eq_append_getElem hi2, hj, he]⟩, by first | omega | (dsimp only; omega)⟩
  · rw [List.take_of_length_le (by omega), List.take_of_length_le (by omega)] at hj
    rw [decide_eq_true hj] at hK; exact hK
end
section
variable {H : Hp} {p : Option Addr} {l cc : Nat} {xs : List Int}
theorem slices_Sort_uint32_uint32.c {K : Hp → Prop} (h : Sl fU H p l cc xs) (hl : l ≤ 1000000000) (hK : ∀ H' ys, Sl fU H' p l cc ys → ys.Perm xs → ys.Pairwise (fun a b => Sort.ltInt b a = false) → Mod (blkL p) H H' → K H') : slices_Sort_uint32_uint32.C p l cc H K := by
  apply slices_Sort_uint32_uint32.of
  have el := h.len
  unfold slices_Sort_uint32_uint32.F
  rw [wrapU l (by omega)]
  refine math_bits_Len.c (by omega) ?_
  have hb := bitsLen_le64 (n := l) (by omega)
  have hA := A1.ofSl h
  have hs : xs.toArray.size = l := by simp [el]
  refine slices_pdqsortOrdered_uint32.c (a := 0) (b := l) l (Nat.le_refl _) hA (Nat.zero_le _) (by omega) (by omega) (by omega) (.inl rfl) hl fun H' d' h' m' hP hS => ?_
  rw [← hs] at hP hS
  rw [← hP.1] at hS
  have hp := permIn_perm hP
  exact hK H' d'.toList (h'.toSl h.2.1) (by simpa using hp) (sortedIn_pw hS) m'
theorem slices_DeleteFunc_uint32_uint32.c {f : Value} {q : Int → Bool} {K : Option Addr → Nat → Nat → Hp → Prop} (h : Sl fU H p l cc xs) (hl : l ≤ 1000000000) (hpt : PtOk p) (hf : ∀ Hx x, x ∈ xs → ∀ K : Bool → Hp → Prop, Mod (blkL p) H Hx → (∀ H', Le Hx H' → K (q x) H') → CallV prog f [.int .u32 x] Hx fun v H' => liftB v fun r => K r H')
    (hK : ∀ l' H', Sl fU H' p l' cc (xs.filter fun x => !q x) → Mod (blkL p) H H' → K p l' cc H') : slices_DeleteFunc_uint32_uint32.C p l cc f H K := by
  apply slices_DeleteFunc_uint32_uint32.of
  have el := h.len
  refine slices_IndexFunc_uint32_uint32.c h hl (fun Hx x hx K le' => hf Hx x hx K le'.mod) (fun hno H' le' => ?_) fun i hi hq hb H1 le1 => ?_
  · refine bcd (fun _ => ?_) fun h => absurd rfl h
    refine hK l H' ?_ le'.mod
    rw [List.filter_eq_self.2 fun x hx => by rw [hno x hx]; rfl]
    exact h.le le'
  refine bcd (fun h => absurd h (by omega)) fun _ => chk (by omega) ?_
  obtain ⟨b, o, rfl, hr⟩ := (h.le le1).at hi
  have keep0 : (xs.take (i + 1)).filter (fun x => !q x) = xs.take i := by
    rw [List.take_succ_eq_append_getElem hi, List.filter_append, List.filter_cons_of_neg (by rw [hq]; decide), List.filter_nil, List.append_nil, List.filter_eq_self]
    intro x hx
    obtain ⟨j, hj, rfl⟩ := List.mem_iff_getElem.1 hx
    rw [List.length_take] at hj
    rw [List.getElem_take, hb j (by omega)]; rfl
  refine ⟨fun t u Hx => ∃ m n : Nat, t = (m : Nat) ∧ u = (n : Nat) ∧ m < n ∧ n ≤ l ∧ Mod [b] H Hx ∧ m = ((xs.take n).filter fun x => !q x).length ∧ (∀ s (hs : s < ((xs.take n).filter fun x => !q x).length), rd Hx b (o + s) = some (fU ((xs.take n).filter fun x => !q x)[s])) ∧ (∀ s (hs : s < xs.length), n ≤ s → rd Hx b (o + s) = some (fU xs[s])) ∧ ∀ s, s < l → ∃ v, rd Hx b (o + s) = some v, fun _ u _ => ((l : Int) - u).toNat,
    ⟨i, i + 1, rfl, by omega, by omega, by omega, le1.mod, by rw [keep0, List.length_take]; omega, fun s hs => by
      simp only [keep0] at hs ⊢
      rw [List.length_take] at hs
      rw [List.getElem_take]; exact hr s (by omega), fun s hs _ => hr s hs, fun s hs => ⟨_, hr s (by omega)⟩⟩, ?_⟩
  rintro t u Hx ⟨m, n, rfl, rfl, hmn, hn, m1, hm, c1, c2, c3⟩
  refine bcd (fun hlt => ?_) fun hlt => ?_
  · have hnx : n < xs.length := by omega
    have ht := List.take_succ_eq_append_getElem hnx
    refine idxN n rfl (by omega) (nil (ldI_i (c2 n hnx (Nat.le_refl _)) (hf Hx _ (List.getElem_mem hnx) _ m1 fun H2 le2 => ?_)))
    have m2 : Mod [b] H H2 := m1.andLe le2
    refine bcn (fun hq' => ?_) fun hq' => ?_
    · obtain ⟨v, hv⟩ := c3 m (by omega)
      have hv2 := le2.rd hv
      have hkf : (xs.take (n + 1)).filter (fun x => !q x) = (xs.take n).filter (fun x => !q x) ++ [xs[n]] := by rw [ht, List.filter_append, List.filter_cons_of_pos (by rw [hq']; rfl)]; rfl
      refine idxN m rfl (by omega) (nil (st hv2 (chk (by omega) (chk (by omega) ⟨⟨m + 1, n + 1, by omega, by omega, by omega, by omega, m2.wr (.inl (by simp)), by rw [hkf, List.length_append, ← hm]; rfl, fun s hs => ?_, fun s hs hns => ?_, fun s hs => ?_⟩, by first | omega | (dsimp only; omega)⟩))))
      · simp only [hkf] at hs ⊢
        rw [List.length_append, ← hm] at hs
        rw [rd_wr hv2 rfl, if_pos rfl]
        by_cases e : s = m
        · subst e
          rw [if_pos rfl, List.getElem_append_right (by omega)]
          simp [hm]
        · simp at hs
          rw [if_neg (by omega), List.getElem_append_left (by omega)]
          exact le2.rd (c1 s (by omega))
      · rw [rd_wr hv2 rfl, if_pos rfl, if_neg (by omega)]
        exact le2.rd (c2 s hs (by omega))
      · rw [rd_wr hv2 rfl, if_pos rfl]
        split
        · exact ⟨_, rfl⟩
        · obtain ⟨v', hv'⟩ := c3 s hs
          exact ⟨v', le2.rd hv'⟩
    · have hkf : (xs.take (n + 1)).filter (fun x => !q x) = (xs.take n).filter (fun x => !q x) := by rw [ht, List.filter_append, List.filter_cons_of_neg (by rw [hq']; decide), List.filter_nil, List.append_nil]
      refine chk (by omega) ⟨⟨m, n + 1, rfl, by omega, by omega, by omega, m2, by rw [hkf]; exact hm, fun s hs => ?_, fun s hs hns => le2.rd (c2 s hs (by omega)), fun s hs => ?_⟩, by first | omega | (dsimp only; omega)⟩
      · simp only [hkf] at hs ⊢
        exact le2.rd (c1 s hs)
      · obtain ⟨v', hv'⟩ := c3 s hs
        exact ⟨v', le2.rd hv'⟩
  · have : n = xs.length := by omega
    subst this
    rw [List.take_length] at hm
    simp only [List.take_length] at c1
    have hcap := h.2.1
    refine bnd10 m rfl (by omega) ?_
    have hmv : movA (some ⟨b, o, none⟩) m 1 cc = some ⟨b, o + m, none⟩ := by
      unfold movA; simp only; rw [if_neg (by omega)]; simp [mulS]
    rw [hmv]
    refine ⟨fun s hs => ?_, fun v hv => List.all_eq_true.1 (rep_all (by rfl)) v hv, ?_⟩
    · rw [rep_len] at hs
      obtain ⟨v, hv⟩ := c3 (m + s) (by simp [te_uint32] at hs; omega)
      rw [Nat.add_assoc, hv]; rfl
    · refine bnd01 m rfl (by omega) ?_
      have hm0 : movA (some ⟨b, o, none⟩) 0 1 cc = some ⟨b, o, none⟩ := by unfold movA; simp only; split <;> simp [mulS]
      rw [hm0]
      refine hK (m - 0) _ ⟨by omega, by omega, .inr ⟨b, o, rfl, fun s hs => ?_⟩⟩ fun x hx c' e => ?_
      · rw [rd_wrN_lt b _ _ _ _ (by omega)]; exact c1 s hs
      · rw [rd_wrN_ne b _ _ _ x (fun e' => hx (by rw [e']; simp [blkL]))]
        exact m1 x (by simpa [blkL] using hx) c' e
theorem slices_Compact_uint32_uint32.c {K : Option Addr → Nat → Nat → Hp → Prop} (h : Sl fU H p l cc xs) (hl : l ≤ 1000000000) (hK : ∀ l' H', Sl fU H' p l' cc (ddTo xs xs.length) → Mod (blkL p) H H' → K p l' cc H') : slices_Compact_uint32_uint32.C p l cc H K := by
  apply slices_Compact_uint32_uint32.of
  have el := h.len
  have hat : ∀ j (hj : j < xs.length), xs[j]? = some xs[j] := fun j hj => List.getElem?_eq_getElem hj
  refine bcd (fun h2 => ?_) fun h2 => ?_
  · refine hK l H ?_ Mod.refl
    have : ddTo xs xs.length = xs := by
      match xs, el with
      | [], _ => rfl
      | [a], _ => simp [ddTo]
      | _ :: _ :: _, el => simp at el; omega
    rw [this]; exact h
  refine ⟨fun t Hx => ∃ k : Nat, t = (k : Nat) ∧ 1 ≤ k ∧ k ≤ l ∧ Hx = H ∧ ddTo xs k = xs.take k, fun t _ => ((l : Int) - t).toNat, ⟨1, rfl, Nat.le_refl _, by omega, rfl, ?_⟩, ?_⟩
  · have : 0 < xs.length := by omega
    simp [ddTo, hat 0 this, List.take_one, List.head?_eq_getElem?]
  rintro t Hx ⟨k, rfl, g1, g2, rfl, hd⟩
  refine bcd (fun hlt => ?_) fun hlt => ?_
  · have hk : k < xs.length := by omega
    refine rsU h rfl hk (chk (by omega) (rsU h (k := k - 1) (by omega) (by omega) ?_))
    refine bcd (fun he => ?_) fun he => ?_
    · have he := eqId he
      refine bnd10 k rfl (by omega) ?_
      obtain ⟨b, o, rfl, hr⟩ := h.at hk
      have hcap := h.2.1
      have hmv : movA (some ⟨b, o, none⟩) k 1 cc = some ⟨b, o + k, none⟩ := by
        unfold movA; simp only; rw [if_neg (by omega)]; simp [mulS]
      rw [hmv]
      have hd1 : ddTo xs (k + 1) = xs.take k := by
        unfold ddTo
        rw [if_pos ⟨by omega, by rw [hat k hk, hat (k - 1) (by omega), he]⟩, hd]
      refine ⟨fun t u Hy => ∃ m n : Nat, t = (m : Nat) ∧ u = (n : Nat) ∧ 1 ≤ n ∧ k + n ≤ l ∧ m < k + n ∧ Mod [b] Hx Hy ∧ m = (ddTo xs (k + n)).length ∧ (∀ s (hs : s < (ddTo xs (k + n)).length), rd Hy b (o + s) = some (fU (ddTo xs (k + n))[s])) ∧ (∀ s (hs : s < xs.length), k + n ≤ s + 1 → rd Hy b (o + s) = some (fU xs[s])) ∧ ∀ s, s < l → ∃ v, rd Hy b (o + s) = some v, fun _ u _ => ((l : Int) - k - u).toNat,
        ⟨k, 1, rfl, rfl, Nat.le_refl _, by omega, by omega, Mod.refl, by rw [hd1, List.length_take]; omega, fun s hs => by
          simp only [hd1] at hs ⊢
          rw [List.length_take] at hs
          rw [List.getElem_take]; exact hr s (by omega), fun s hs _ => hr s hs, fun s hs => ⟨_, hr s (by omega)⟩⟩, ?_⟩
      rintro t u Hy ⟨m, n, rfl, rfl, n1, hn, hmn, m1, hm, c1, c2, c3⟩
      refine bcd (fun hlt' => ?_) fun hlt' => ?_
      · have hnx : k + n < xs.length := by omega
        have hnx1 : k + n - 1 < xs.length := by omega
        have r1 : rd Hy b (o + k + n) = some (fU xs[k + n]) := by rw [Nat.add_assoc]; exact c2 _ hnx (by omega)
        have r2 : rd Hy b (o + k + (n - 1)) = some (fU xs[k + n - 1]) := by rw [show o + k + (n - 1) = o + (k + n - 1) by omega]; exact c2 _ hnx1 (by omega)
        refine idxN n rfl (by omega) (nil (ldI_i r1 (chk (by omega) (idxN (n - 1) (by omega) (by omega) (nil (ldI_i r2 ?_))))))
        refine bcd (fun hne => ?_) fun heq => ?_
        · have hdd : ddTo xs (k + n + 1) = ddTo xs (k + n) ++ [xs[k + n]] := by
            rw [ddTo, if_neg, hat _ hnx]
            · rfl
            · rintro ⟨_, e⟩
              rw [hat _ hnx, hat _ hnx1] at e
              exact hne (by rw [Option.some.inj e])
          obtain ⟨v, hv⟩ := c3 m (by omega)
          refine idxN n rfl (by omega) (nil (ldI_i r1 (idxN m rfl (by omega) (nil (st hv (chk (by omega) (chk (by omega) ⟨⟨m + 1, n + 1, by omega, by omega, by omega, by omega, by omega, m1.wr (.inl (by simp)), by rw [← Nat.add_assoc, hdd, List.length_append, ← hm]; rfl, fun s hs => ?_, fun s hs hns => ?_, fun s hs => ?_⟩, by first | omega | (dsimp only; omega)⟩)))))))
          · have e1 : k + (n + 1) = k + n + 1 := by omega
            simp only [e1, hdd] at hs ⊢
            rw [List.length_append, ← hm] at hs
            rw [rd_wr hv rfl, if_pos rfl]
            by_cases e : s = m
            · subst e
              rw [if_pos rfl, List.getElem_append_right (by omega)]
              first | (simp [hm]; done) | (simp [hm]; rfl)
            · simp at hs
              rw [if_neg (by omega), List.getElem_append_left (by omega)]
              exact c1 s (by omega)
          · have := ddTo_len xs (k + n)
            rw [rd_wr hv rfl, if_pos rfl, if_neg (by omega)]
            exact c2 s hs (by omega)
          · rw [rd_wr hv rfl, if_pos rfl]
            split
            · exact ⟨_, rfl⟩
            · exact c3 s hs
        · have heq := eqId (Classical.not_not.1 heq)
          have hdd : ddTo xs (k + n + 1) = ddTo xs (k + n) := by
            rw [ddTo, if_pos ⟨by omega, by rw [hat _ hnx, hat _ hnx1, heq]⟩]
          refine chk (by omega) ⟨⟨m, n + 1, rfl, by omega, by omega, by omega, by omega, m1, by rw [← Nat.add_assoc, hdd]; exact hm, fun s hs => ?_, fun s hs hns => c2 s hs (by omega), c3⟩, by first | omega | (dsimp only; omega)⟩
          have e1 : k + (n + 1) = k + n + 1 := by omega
          simp only [e1, hdd] at hs ⊢
          exact c1 s hs
      · have e1 : k + n = xs.length := by omega
        rw [e1] at hm
        simp only [e1] at c1
        refine bnd10 m rfl (by omega) ?_
        have hmv2 : movA (some ⟨b, o, none⟩) m 1 cc = some ⟨b, o + m, none⟩ := by
          unfold movA; simp only; rw [if_neg (by omega)]; simp [mulS]
        rw [hmv2]
        refine ⟨fun s hs => ?_, fun v hv => List.all_eq_true.1 (rep_all (by rfl)) v hv, ?_⟩
        · rw [rep_len] at hs
          obtain ⟨v, hv⟩ := c3 (m + s) (by simp [te_uint32] at hs; omega)
          rw [Nat.add_assoc, hv]; rfl
        · refine bnd01 m rfl (by omega) ?_
          have hm0 : movA (some ⟨b, o, none⟩) 0 1 cc = some ⟨b, o, none⟩ := by unfold movA; simp only; split <;> simp [mulS]
          rw [hm0]
          refine hK (m - 0) _ ⟨by omega, by omega, .inr ⟨b, o, rfl, fun s hs => ?_⟩⟩ fun x hx c' e => ?_
          · rw [rd_wrN_lt b _ _ _ _ (by omega)]; exact c1 s hs
          · rw [rd_wrN_ne b _ _ _ x (fun e' => hx (by rw [e']; simp [blkL]))]
            exact m1 x (by simpa [blkL] using hx) c' e
    · refine chk (by omega) ⟨⟨k + 1, by omega, by omega, by omega, by trivial, ?_⟩, by first | omega | (dsimp only; omega)⟩
      rw [ddTo, if_neg, hd, hat k hk, List.take_succ_eq_append_getElem hk]
      · rfl
      · rintro ⟨_, e⟩
        rw [hat k hk, hat (k - 1) (by omega)] at e
        exact he (by rw [Option.some.inj e])
  · refine hK l Hx ?_ Mod.refl
    have : k = xs.length := by omega
    subst this
    rw [hd, List.take_length]; exact h
end
section
variable {H : Hp} {p : Option Addr} {l cc : Nat} {xs : List BL}
theorem slices_IndexFunc_string_string.c {f : Value} {q : BL → Bool} {K : Int → Hp → Prop} (h : Sl sv H p l cc xs) (hl : l ≤ 1000000000) (hf : ∀ Hx x, x ∈ xs → ∀ K : Bool → Hp → Prop, Le H Hx → (∀ H', Le Hx H' → K (q x) H') → CallV prog f [sv x] Hx fun v H' => liftB v fun r => K r H')
    (hno : (∀ x ∈ xs, q x = false) → ∀ H', Le H H' → K (-1) H') (hyes : ∀ i (hi : i < xs.length), q xs[i] = true → (∀ j (hj : j < i), q (xs[j]'(by omega)) = false) → ∀ H', Le H H' → K (i : Nat) H') : slices_IndexFunc_string_string.C p l cc f H K := by
  apply slices_IndexFunc_string_string.of
  have el := h.len
  refine ⟨fun t Hx => ∃ i : Nat, t = (i : Nat) ∧ i ≤ l ∧ Le H Hx ∧ ∀ j (hj : j < xs.length), j < i → q xs[j] = false, fun t _ => ((l : Int) - t).toNat, ⟨0, rfl, Nat.zero_le _, Le.refl _, fun j _ h => absurd h (Nat.not_lt_zero _)⟩, ?_⟩
  rintro t Hx ⟨i, rfl, gi, lex, hj⟩
  refine bcd (fun hlt => ?_) fun hlt => hno (fun x hx => by
    obtain ⟨j, hj', rfl⟩ := List.mem_iff_getElem.1 hx
    exact hj j hj' (by omega)) Hx lex
  have hi : i < xs.length := by omega
  refine rsT (h.le lex) rfl hi (hf Hx _ (List.getElem_mem hi) _ lex fun H' le' => bc_i (fun hq => hyes i hi hq (fun j hj' => hj j (by omega) hj') H' (lex.trans le')) fun hq => ?_)
  refine chk (by omega) ⟨⟨i + 1, by omega, by omega, lex.trans le', fun j hj' hji => ?_⟩, by first | omega | (dsimp only; omega)⟩
  by_cases e : j = i
  · subst e; exact hq
  · exact hj j hj' (by omega)
theorem slices_ContainsFunc_string_string.c {f : Value} {q : BL → Bool} {K : Bool → Hp → Prop} (h : Sl sv H p l cc xs) (hl : l ≤ 1000000000) (hf : ∀ Hx x, x ∈ xs → ∀ K : Bool → Hp → Prop, Le H Hx → (∀ H', Le Hx H' → K (q x) H') → CallV prog f [sv x] Hx fun v H' => liftB v fun r => K r H')
    (hK : ∀ H', Le H H' → K (xs.any q) H') : slices_ContainsFunc_string_string.C p l cc f H K := by
  apply slices_ContainsFunc_string_string.of
  refine slices_IndexFunc_string_string.c h hl hf (fun hno H' le' => ?_) fun i hi hq _ H' le' => ?_
  · have e : xs.any q = false := by
      rw [List.any_eq_false]
      intro x hx; rw [hno x hx]; decide
    have := hK H' le'
    rw [e] at this; exact this
  · have e : xs.any q = true := List.any_eq_true.2 ⟨_, List.getElem_mem hi, hq⟩
    have := hK H' le'
    rw [e] at this
    rw [decide_eq_true (by omega)]; exact this
theorem slices_Index_string_string.c {v : BL} {K : Int → Hp → Prop} (h : Sl sv H p l cc xs) (hl : l ≤ 1000000000)
    (hno : v ∉ xs → K (-1) H) (hyes : ∀ i (hi : i < xs.length), xs[i] = v → K (i : Nat) H) : slices_Index_string_string.C p l cc (mkB v) H K := by
  apply slices_Index_string_string.of
  have el := h.len
  refine ⟨fun t Hx => ∃ i : Nat, t = (i : Nat) ∧ i ≤ l ∧ Hx = H ∧ ∀ j (hj : j < xs.length), j < i → xs[j] ≠ v, fun t _ => ((l : Int) - t).toNat, ⟨0, rfl, Nat.zero_le _, rfl, fun j _ h => absurd h (Nat.not_lt_zero _)⟩, ?_⟩
  rintro t Hx ⟨i, rfl, gi, rfl, hj⟩
  refine bcd (fun hlt => ?_) fun hlt => hno fun hx => by
    obtain ⟨j, hj', e⟩ := List.mem_iff_getElem.1 hx
    exact hj j hj' (by omega) e
  have hi : i < xs.length := by omega
  refine rsT h rfl hi (bcd (fun he => hyes i hi (mkB_eq he).symm) fun he => ?_)
  refine chk (by omega) ⟨⟨i + 1, by omega, by omega, by trivial, fun j hj' hji => ?_⟩, by first | omega | (dsimp only; omega)⟩
  by_cases e : j = i
  · subst e; exact fun e => he (by rw [e])
  · exact hj j hj' (by omega)
theorem slices_Contains_string_string.c {v : BL} {K : Bool → Hp → Prop} (h : Sl sv H p l cc xs) (hl : l ≤ 1000000000) (hK : K (decide (v ∈ xs)) H) : slices_Contains_string_string.C p l cc (mkB v) H K := by
  apply slices_Contains_string_string.of
  refine slices_Index_string_string.c h hl (fun hno => ?_) fun i hi e => ?_
  · rw [decide_eq_false hno] at hK; exact hK
  · rw [decide_eq_true (by rw [← e]; exact List.getElem_mem hi)] at hK
    rw [decide_eq_true (by omega)]; exact hK
theorem slices_Equal_string_string.c {p2 : Option Addr} {l2 c2 : Nat} {ys : List BL} {K : Bool → Hp → Prop} (h : Sl sv H p l cc xs) (h2 : Sl sv H p2 l2 c2 ys) (hl : l ≤ 1000000000) (hK : K (decide (xs = ys)) H) : slices_Equal_string_string.C p l cc p2 l2 c2 H K := by
  apply slices_Equal_string_string.of
  have e1 := h.len
  have e2 := h2.len
  refine bcd (fun hne => ?_) fun hne => ?_
  · rw [decide_eq_false (fun e => by subst e; omega)] at hK; exact hK
  refine ⟨fun t Hx => ∃ i : Nat, t = (i : Nat) ∧ i ≤ l ∧ Hx = H ∧ xs.take i = ys.take i, fun t _ => ((l : Int) - t).toNat, ⟨0, rfl, Nat.zero_le _, rfl, rfl⟩, ?_⟩
  rintro t Hx ⟨i, rfl, gi, rfl, hj⟩
  refine bcd (fun hlt => ?_) fun hlt => ?_
  · have hi : i < xs.length := by omega
    have hi2 : i < ys.length := by omega
    refine rsT h rfl hi (rsT h2 rfl hi2 ?_)
    refine bcdT (fun he => ?_) fun he => ?_
    · rw [decide_eq_false (fun e => by subst e; exact he rfl)] at hK; exact hK
    · exact chk (by omega) ⟨⟨i + 1, by omega, by omega, by trivial, by rw [List.take_succ_eq_append_getElem hi, List.take_succ_eq_append_getElem hi2, hj, he]⟩, by first | omega | (dsimp only; omega)⟩
  · rw [List.take_of_length_le (by omega), List.take_of_length_le (by omega)] at hj
    rw [decide_eq_true hj] at hK; exact hK
end
section
variable {H : Hp} {p : Option Addr} {l cc : Nat} {xs : List BL}
end
section
variable {H : Hp} {p : Option Addr} {l cc : Nat} {xs : List Ed}
theorem slices_Equal_api_Edge_api_Edge.c {p2 : Option Addr} {l2 c2 : Nat} {ys : List Ed} {K : Bool → Hp → Prop} (h : Sn 4 edC H p l cc xs) (h2 : Sn 4 edC H p2 l2 c2 ys) (hl : l ≤ 1000000000) (hK : K (decide (xs = ys)) H) : slices_Equal_api_Edge_api_Edge.C p l cc p2 l2 c2 H K := by
  apply slices_Equal_api_Edge_api_Edge.of
  have e1 := h.len
  have e2 := h2.len
  refine bcd (fun hne => ?_) fun hne => ?_
  · rw [decide_eq_false (fun e => by subst e; omega)] at hK; exact hK
  refine ⟨fun t Hx => ∃ i : Nat, t = (i : Nat) ∧ i ≤ l ∧ Hx = H ∧ xs.take i = ys.take i, fun t _ => ((l : Int) - t).toNat, ⟨0, rfl, Nat.zero_le _, rfl, rfl⟩, ?_⟩
  rintro t Hx ⟨i, rfl, gi, rfl, hj⟩
  refine bcd (fun hlt => ?_) fun hlt => ?_
  · have hi : i < xs.length := by omega
    have hi2 : i < ys.length := by omega
    refine rsE h rfl hi (rsE h2 rfl hi2 ?_)
    refine neE (fun he => ?_) fun he => ?_
    · rw [decide_eq_false (fun e => by subst e; exact he rfl)] at hK; exact hK
    · exact chk (by omega) ⟨⟨i + 1, by omega, by omega, by trivial, by rw [List.take_succ_eq_append_getElem hi, List.take_succ_eq_append_getElem hi2, hj, he]⟩, by first | omega | (dsimp only; omega)⟩
  · rw [List.take_of_length_le (by omega), List.take_of_length_le (by omega)] at hj
    rw [decide_eq_true hj] at hK; exact hK
end
section
variable {H : Hp} {p : Option Addr} {l cc : Nat} {xs : List Lid}
theorem slices_Equal_api_LineID_api_LineID.c {p2 : Option Addr} {l2 c2 : Nat} {ys : List Lid} {K : Bool → Hp → Prop} (h : Sn 2 lidC H p l cc xs) (h2 : Sn 2 lidC H p2 l2 c2 ys) (hl : l ≤ 1000000000) (hK : K (decide (xs = ys)) H) : slices_Equal_api_LineID_api_LineID.C p l cc p2 l2 c2 H K := by
  apply slices_Equal_api_LineID_api_LineID.of
  have e1 := h.len
  have e2 := h2.len
  refine bcd (fun hne => ?_) fun hne => ?_
  · rw [decide_eq_false (fun e => by subst e; omega)] at hK; exact hK
  refine ⟨fun t Hx => ∃ i : Nat, t = (i : Nat) ∧ i ≤ l ∧ Hx = H ∧ xs.take i = ys.take i, fun t _ => ((l : Int) - t).toNat, ⟨0, rfl, Nat.zero_le _, rfl, rfl⟩, ?_⟩
  rintro t Hx ⟨i, rfl, gi, rfl, hj⟩
  refine bcd (fun hlt => ?_) fun hlt => ?_
  · have hi : i < xs.length := by omega
    have hi2 : i < ys.length := by omega
    refine rsL h rfl hi (rsL h2 rfl hi2 ?_)
    refine neL (fun he => ?_) fun he => ?_
    · rw [decide_eq_false (fun e => by subst e; exact he rfl)] at hK; exact hK
    · exact chk (by omega) ⟨⟨i + 1, by omega, by omega, by trivial, by rw [List.take_succ_eq_append_getElem hi, List.take_succ_eq_append_getElem hi2, hj, he]⟩, by first | omega | (dsimp only; omega)⟩
  · rw [List.take_of_length_le (by omega), List.take_of_length_le (by omega)] at hj
    rw [decide_eq_true hj] at hK; exact hK
end
section
variable {H : Hp} {p : Option Addr} {l cc : Nat} {xs : List Int}
theorem patch_rises_uint32.c {f : Value} {lt : Int → Int → Bool} {K : Bool → Hp → Prop} (h : Sl fU H p l cc xs) (hl : l ≤ 1000000000) (hf : ∀ Hx x y (K : Int → Hp → Prop), Le H Hx → (∀ H', Le Hx H' → K (cmp3 lt x y) H') → CallV prog f [.int .u32 x, .int .u32 y] Hx fun v H' => liftI .i64 v fun r => K r H')
    (hK : ∀ H', Le H H' → K (rsB lt xs) H') : patch_rises_uint32.C p l cc f H K := by
  apply patch_rises_uint32.of
  have el := h.len
  refine ⟨fun t Hx => ∃ i : Nat, t = (i : Nat) ∧ 1 ≤ i ∧ (i ≤ l ∨ i = 1) ∧ Le H Hx ∧ rsB lt (xs.take i) = true, fun t _ => ((l : Int) - t).toNat, ⟨1, rfl, Nat.le_refl _, .inr rfl, Le.refl _, rsB_one (by simp; omega)⟩, ?_⟩
  rintro t Hx ⟨i, rfl, g1, g2, lex, hr⟩
  refine bcd (fun hlt => ?_) fun hlt => ?_
  · have hi : i < xs.length := by omega
    refine chk (by omega) (rsU (h.le lex) (k := i - 1) (by omega) (by omega) (rsU (h.le lex) rfl hi (hf Hx _ _ _ lex fun H' le' => bcd (fun hge => ?_) fun hge => ?_)))
    · have : rsB lt xs = false := rsB_bad hi g1 (cmp3_ge hge)
      have hK := hK H' (lex.trans le')
      rw [this] at hK; exact hK
    · exact chk (by omega) ⟨⟨i + 1, by omega, by omega, .inl (by omega), lex.trans le', rsB_next hi g1 hr (cmp3_lt (by omega))⟩, by first | omega | (dsimp only; omega)⟩
  · have hK := hK Hx lex
    rw [List.take_of_length_le (by omega)] at hr
    rw [hr] at hK; exact hK
end
section
variable {H : Hp} {p : Option Addr} {l cc : Nat} {xs : List BL}
theorem patch_rises_string.c {f : Value} {lt : BL → BL → Bool} {K : Bool → Hp → Prop} (h : Sl sv H p l cc xs) (hl : l ≤ 1000000000) (hf : ∀ Hx x y (K : Int → Hp → Prop), Le H Hx → (∀ H', Le Hx H' → K (cmp3 lt x y) H') → CallV prog f [sv x, sv y] Hx fun v H' => liftI .i64 v fun r => K r H')
    (hK : ∀ H', Le H H' → K (rsB lt xs) H') : patch_rises_string.C p l cc f H K := by
  apply patch_rises_string.of
  have el := h.len
  refine ⟨fun t Hx => ∃ i : Nat, t = (i : Nat) ∧ 1 ≤ i ∧ (i ≤ l ∨ i = 1) ∧ Le H Hx ∧ rsB lt (xs.take i) = true, fun t _ => ((l : Int) - t).toNat, ⟨1, rfl, Nat.le_refl _, .inr rfl, Le.refl _, rsB_one (by simp; omega)⟩, ?_⟩
  rintro t Hx ⟨i, rfl, g1, g2, lex, hr⟩
  refine bcd (fun hlt => ?_) fun hlt => ?_
  · have hi : i < xs.length := by omega
    refine chk (by omega) (rsT (h.le lex) (k := i - 1) (by omega) (by omega) (rsT (h.le lex) rfl hi (hf Hx _ _ _ lex fun H' le' => bcd (fun hge => ?_) fun hge => ?_)))
    · have : rsB lt xs = false := rsB_bad hi g1 (cmp3_ge hge)
      have hK := hK H' (lex.trans le')
      rw [this] at hK; exact hK
    · exact chk (by omega) ⟨⟨i + 1, by omega, by omega, .inl (by omega), lex.trans le', rsB_next hi g1 hr (cmp3_lt (by omega))⟩, by first | omega | (dsimp only; omega)⟩
  · have hK := hK Hx lex
    rw [List.take_of_length_le (by omega)] at hr
    rw [hr] at hK; exact hK
end
section
variable {H : Hp} {p : Option Addr} {l cc : Nat} {xs : List Ed}
theorem patch_rises_api_Edge.c {f : Value} {lt : Ed → Ed → Bool} {K : Bool → Hp → Prop} (h : Sn 4 edC H p l cc xs) (hl : l ≤ 1000000000) (hf : ∀ Hx x y (K : Int → Hp → Prop), Le H Hx → (∀ H', Le Hx H' → K (cmp3 lt x y) H') → CallV prog f [edV x, edV y] Hx fun v H' => liftI .i64 v fun r => K r H')
    (hK : ∀ H', Le H H' → K (rsB lt xs) H') : patch_rises_api_Edge.C p l cc f H K := by
  apply patch_rises_api_Edge.of
  have el := h.len
  refine ⟨fun t Hx => ∃ i : Nat, t = (i : Nat) ∧ 1 ≤ i ∧ (i ≤ l ∨ i = 1) ∧ Le H Hx ∧ rsB lt (xs.take i) = true, fun t _ => ((l : Int) - t).toNat, ⟨1, rfl, Nat.le_refl _, .inr rfl, Le.refl _, rsB_one (by simp; omega)⟩, ?_⟩
  rintro t Hx ⟨i, rfl, g1, g2, lex, hr⟩
  refine bcd (fun hlt => ?_) fun hlt => ?_
  · have hi : i < xs.length := by omega
    refine chk (by omega) (rsE (h.le lex) (k := i - 1) (by omega) (by omega) (rsE (h.le lex) rfl hi (hf Hx _ _ _ lex fun H' le' => bcd (fun hge => ?_) fun hge => ?_)))
    · have : rsB lt xs = false := rsB_bad hi g1 (cmp3_ge hge)
      have hK := hK H' (lex.trans le')
      rw [this] at hK; exact hK
    · exact chk (by omega) ⟨⟨i + 1, by omega, by omega, .inl (by omega), lex.trans le', rsB_next hi g1 hr (cmp3_lt (by omega))⟩, by first | omega | (dsimp only; omega)⟩
  · have hK := hK Hx lex
    rw [List.take_of_length_le (by omega)] at hr
    rw [hr] at hK; exact hK
end
section
variable {H : Hp} {p : Option Addr} {l cc : Nat} {xs : List Lid}
theorem patch_rises_api_LineID.c {f : Value} {lt : Lid → Lid → Bool} {K : Bool → Hp → Prop} (h : Sn 2 lidC H p l cc xs) (hl : l ≤ 1000000000) (hf : ∀ Hx x y (K : Int → Hp → Prop), Le H Hx → (∀ H', Le Hx H' → K (cmp3 lt x y) H') → CallV prog f [lidV x, lidV y] Hx fun v H' => liftI .i64 v fun r => K r H')
    (hK : ∀ H', Le H H' → K (rsB lt xs) H') : patch_rises_api_LineID.C p l cc f H K := by
  apply patch_rises_api_LineID.of
  have el := h.len
  refine ⟨fun t Hx => ∃ i : Nat, t = (i : Nat) ∧ 1 ≤ i ∧ (i ≤ l ∨ i = 1) ∧ Le H Hx ∧ rsB lt (xs.take i) = true, fun t _ => ((l : Int) - t).toNat, ⟨1, rfl, Nat.le_refl _, .inr rfl, Le.refl _, rsB_one (by simp; omega)⟩, ?_⟩
  rintro t Hx ⟨i, rfl, g1, g2, lex, hr⟩
  refine bcd (fun hlt => ?_) fun hlt => ?_
  · have hi : i < xs.length := by omega
    refine chk (by omega) (rsL (h.le lex) (k := i - 1) (by omega) (by omega) (rsL (h.le lex) rfl hi (hf Hx _ _ _ lex fun H' le' => bcd (fun hge => ?_) fun hge => ?_)))
    · have : rsB lt xs = false := rsB_bad hi g1 (cmp3_ge hge)
      have hK := hK H' (lex.trans le')
      rw [this] at hK; exact hK
    · exact chk (by omega) ⟨⟨i + 1, by omega, by omega, .inl (by omega), lex.trans le', rsB_next hi g1 hr (cmp3_lt (by omega))⟩, by first | omega | (dsimp only; omega)⟩
  · have hK := hK Hx lex
    rw [List.take_of_length_le (by omega)] at hr
    rw [hr] at hK; exact hK
end
end Go.Proofs.YtbpbgkpkkklipaaGreat
namespace Go.Proofs.YtbpbgkpkkklipaaGreat
open Go.V
/-! ### Patches -/
structure Hk where
  path : BL
  adds : List BL
  edges : List Ed
  kills : List Lid
  deriving DecidableEq
structure Pt where
  id : Int
  deps : List Int
  makes : List BL
  drops : List BL
  hunks : List Hk
  deriving DecidableEq
/-- A slice of hunks. -/
def HkH (H : Hp) (p : Option Addr) (l c : Nat) (hs : List Hk) : Prop :=
  l = hs.length ∧ l ≤ c ∧ (hs = [] ∨ ∃ b o, p = some ⟨b, o, none⟩ ∧ ∀ i (h : i < hs.length), ∃ ap al ac ep el ec kp kl kc, rd H b (o + i * 4) = some (.string (mkB hs[i].path)) ∧ rd H b (o + i * 4 + 1) = some (.slice ap al ac) ∧ rd H b (o + i * 4 + 1 + 1) = some (.slice ep el ec) ∧ rd H b (o + i * 4 + 1 + 1 + 1) = some (.slice kp kl kc) ∧
    Sl sv H ap al ac hs[i].adds ∧ Sn 4 edC H ep el ec hs[i].edges ∧ Sn 2 lidC H kp kl kc hs[i].kills)
theorem Sn_le {α : Type} {n : Nat} {g : α → List Value} {H H' : Hp} {p : Option Addr} {l c : Nat} {xs : List α} (h : Sn n g H p l c xs) (hl : Le H H') : Sn n g H' p l c xs := h.le hl
theorem HkH_le {H H' : Hp} {p : Option Addr} {l c : Nat} {hs : List Hk} (h : HkH H p l c hs) (hl : Le H H') : HkH H' p l c hs := by
  refine ⟨h.1, h.2.1, h.2.2.imp id fun ⟨b, o, e, hh⟩ => ⟨b, o, e, fun i hi => ?_⟩⟩
  obtain ⟨ap, al, ac, ep, el, ec, kp, kl, kc, h1, h2, h3, h4, h5, h6, h7⟩ := hh i hi
  exact ⟨ap, al, ac, ep, el, ec, kp, kl, kc, hl.rd h1, hl.rd h2, hl.rd h3, hl.rd h4, h5.le hl, h6.le hl, h7.le hl⟩
theorem rsH {H : Hp} {p : Option Addr} {l c : Nat} {hs : List Hk} (h : HkH H p l c hs) {k : Nat} {e : Int} (he : e = (k : Int)) (hk : k < hs.length) {F : ByteArray → Option Addr → Nat → Nat → Option Addr → Nat → Nat → Option Addr → Nat → Nat → Prop}
    (hF : ∀ ap al ac ep el ec kp kl kc, Sl sv H ap al ac hs[k].adds → Sn 4 edC H ep el ec hs[k].edges → Sn 2 lidC H kp kl kc hs[k].kills → F (mkB hs[k].path) ap al ac ep el ec kp kl kc) :
    IDX e l fun k => NIL p fun b o => ldS (rd H b (o + (k * 4))) fun x => ldL (rd H b ((o + (k * 4)) + 1)) fun ap al ac => ldL (rd H b (((o + (k * 4)) + 1) + 1)) fun ep el ec => ldL (rd H b ((((o + (k * 4)) + 1) + 1) + 1)) fun kp kl kc => F x ap al ac ep el ec kp kl kc := by
  have hl := h.1
  rcases h.2.2 with h0 | ⟨b, o, rfl, hh⟩
  · subst h0; simp at hk
  · obtain ⟨ap, al, ac, ep, el, ec, kp, kl, kc, h1, h2, h3, h4, h5, h6, h7⟩ := hh k hk
    exact idxN k he (by omega) (nil (ldS_i h1 (ldL_i h2 (ldL_i h3 (ldL_i h4 (hF _ _ _ _ _ _ _ _ _ h5 h6 h7))))))
/-- A block of a hunk. -/
def D4 (H : Hp) (b : Nat) (f : ByteArray) (ap : Option Addr) (al ac : Nat) (ep : Option Addr) (el ec : Nat) (kp : Option Addr) (kl kc : Nat) : Prop := rd H b 0 = some (.string f) ∧ rd H b 1 = some (.slice ap al ac) ∧ rd H b 2 = some (.slice ep el ec) ∧ rd H b 3 = some (.slice kp kl kc)
section
variable {H H' : Hp} {b : Nat} {f : ByteArray} {ap ep kp : Option Addr} {al ac el ec kl kc : Nat} {O : List Nat}
theorem D4.new : D4 (upd H b [.string f, .slice ap al ac, .slice ep el ec, .slice kp kl kc]) b f ap al ac ep el ec kp kl kc := ⟨by rw [rd_upd_self]; rfl, by rw [rd_upd_self]; rfl, by rw [rd_upd_self]; rfl, by rw [rd_upd_self]; rfl⟩
theorem D4.le (h : D4 H b f ap al ac ep el ec kp kl kc) (hl : Le H H') : D4 H' b f ap al ac ep el ec kp kl kc := ⟨hl.rd h.1, hl.rd h.2.1, hl.rd h.2.2.1, hl.rd h.2.2.2⟩
theorem D4.mod (h : D4 H b f ap al ac ep el ec kp kl kc) (hl : Mod O H H') (hb : b ∉ O) : D4 H' b f ap al ac ep el ec kp kl kc := ⟨hl.rd hb h.1, hl.rd hb h.2.1, hl.rd hb h.2.2.1, hl.rd hb h.2.2.2⟩
theorem D4.there (h : D4 H b f ap al ac ep el ec kp kl kc) : H b ≠ none := ne_none_of_rd h.1
theorem D4.get {K : ByteArray → Option Addr → Nat → Nat → Option Addr → Nat → Nat → Option Addr → Nat → Nat → Prop} (h : D4 H b f ap al ac ep el ec kp kl kc) (hK : K f ap al ac ep el ec kp kl kc) :
    ldS (rd H b 0) fun g => ldL (rd H b 1) fun a b' c => ldL (rd H b 2) fun d e f => ldL (rd H b 3) fun i j k => K g a b' c d e f i j k := ldS_i h.1 (ldL_i h.2.1 (ldL_i h.2.2.1 (ldL_i h.2.2.2 hK)))
theorem D4.mk {q0 : ByteArray} {a0 b0 c0 : Option Addr} {a1 a2 b1 b2 c1 c2 : Nat} {F : Nat → Hp → Prop} (hF : ∀ q H', H q = none → D4 H' q f ap al ac ep el ec kp kl kc → Le H H' → F q H') :
    NEW H [.string q0, .slice a0 a1 a2, .slice b0 b1 b2, .slice c0 c1 c2] fun q H1 => ST H1 q 0 (.string f) fun H2 => ST H2 q 1 (.slice ap al ac) fun H3 => ST H3 q 2 (.slice ep el ec) fun H4 => ST H4 q 3 (.slice kp kl kc) fun H5 => F q H5 :=
  fun q hq => ST_upd rfl (ST_upd rfl (ST_upd rfl (ST_upd rfl (hF q _ hq D4.new (Le.upd hq)))))
end
/-- A block of a patch. -/
def D5 (H : Hp) (b : Nat) (id : Int) (dp : Option Addr) (dl dc : Nat) (mp : Option Addr) (ml mc : Nat) (qp : Option Addr) (ql qc : Nat) (hp : Option Addr) (hl hc : Nat) : Prop := rd H b 0 = some (.int .u32 id) ∧ rd H b 1 = some (.slice dp dl dc) ∧ rd H b 2 = some (.slice mp ml mc) ∧ rd H b 3 = some (.slice qp ql qc) ∧ rd H b 4 = some (.slice hp hl hc)
section
variable {H H' : Hp} {b : Nat} {id : Int} {dp mp qp hp : Option Addr} {dl dc ml mc ql qc hl hc : Nat} {O : List Nat}
theorem D5.new : D5 (upd H b [.int .u32 id, .slice dp dl dc, .slice mp ml mc, .slice qp ql qc, .slice hp hl hc]) b id dp dl dc mp ml mc qp ql qc hp hl hc := ⟨by rw [rd_upd_self]; rfl, by rw [rd_upd_self]; rfl, by rw [rd_upd_self]; rfl, by rw [rd_upd_self]; rfl, by rw [rd_upd_self]; rfl⟩
theorem D5.le (h : D5 H b id dp dl dc mp ml mc qp ql qc hp hl hc) (hle : Le H H') : D5 H' b id dp dl dc mp ml mc qp ql qc hp hl hc := ⟨hle.rd h.1, hle.rd h.2.1, hle.rd h.2.2.1, hle.rd h.2.2.2.1, hle.rd h.2.2.2.2⟩
theorem D5.mod (h : D5 H b id dp dl dc mp ml mc qp ql qc hp hl hc) (hm : Mod O H H') (hb : b ∉ O) : D5 H' b id dp dl dc mp ml mc qp ql qc hp hl hc := ⟨hm.rd hb h.1, hm.rd hb h.2.1, hm.rd hb h.2.2.1, hm.rd hb h.2.2.2.1, hm.rd hb h.2.2.2.2⟩
theorem D5.there (h : D5 H b id dp dl dc mp ml mc qp ql qc hp hl hc) : H b ≠ none := ne_none_of_rd h.1
theorem D5.get {K : Int → Option Addr → Nat → Nat → Option Addr → Nat → Nat → Option Addr → Nat → Nat → Option Addr → Nat → Nat → Prop} (h : D5 H b id dp dl dc mp ml mc qp ql qc hp hl hc) (hK : K id dp dl dc mp ml mc qp ql qc hp hl hc) :
    ldI .u32 (rd H b 0) fun g => ldL (rd H b 1) fun a b' c => ldL (rd H b 2) fun d e f => ldL (rd H b 3) fun i j k => ldL (rd H b 4) fun l m n => K g a b' c d e f i j k l m n := ldI_i h.1 (ldL_i h.2.1 (ldL_i h.2.2.1 (ldL_i h.2.2.2.1 (ldL_i h.2.2.2.2 hK))))
theorem D5.mk {i0 : Int} {a0 b0 c0 d0 : Option Addr} {a1 a2 b1 b2 c1 c2 d1 d2 : Nat} {F : Nat → Hp → Prop} (hF : ∀ q H', H q = none → D5 H' q id dp dl dc mp ml mc qp ql qc hp hl hc → Le H H' → F q H') :
    NEW H [.int .u32 i0, .slice a0 a1 a2, .slice b0 b1 b2, .slice c0 c1 c2, .slice d0 d1 d2] fun q H1 => ST H1 q 0 (.int .u32 id) fun H2 => ST H2 q 1 (.slice dp dl dc) fun H3 => ST H3 q 2 (.slice mp ml mc) fun H4 => ST H4 q 3 (.slice qp ql qc) fun H5 => ST H5 q 4 (.slice hp hl hc) fun H6 => F q H6 :=
  fun q hq => ST_upd rfl (ST_upd rfl (ST_upd rfl (ST_upd rfl (ST_upd rfl (hF q _ hq D5.new (Le.upd hq))))))
/-- A patch by value. -/
def PtS (H : Hp) (id : Int) (dp : Option Addr) (dl dc : Nat) (mp : Option Addr) (ml mc : Nat) (qp : Option Addr) (ql qc : Nat) (hp : Option Addr) (hl hc : Nat) (x : Pt) : Prop := id = x.id ∧ Sl fU H dp dl dc x.deps ∧ Sl sv H mp ml mc x.makes ∧ Sl sv H qp ql qc x.drops ∧ HkH H hp hl hc x.hunks
theorem PtS.up {x : Pt} (h : PtS H id dp dl dc mp ml mc qp ql qc hp hl hc x) (hle : Le H H') : PtS H' id dp dl dc mp ml mc qp ql qc hp hl hc x := ⟨h.1, h.2.1.le hle, h.2.2.1.le hle, h.2.2.2.1.le hle, HkH_le h.2.2.2.2 hle⟩
end
/-- Of no great size. -/
structure HkSm (h : Hk) : Prop where
  path : h.path.length ≤ 1000000
  adds : h.adds.length ≤ 1000
  edges : h.edges.length ≤ 1000
  kills : h.kills.length ≤ 1000
  text : ∀ s ∈ h.adds, s.length ≤ 1000000
structure PtSm (x : Pt) : Prop where
  deps : x.deps.length ≤ 1000
  makes : x.makes.length ≤ 1000
  drops : x.drops.length ≤ 1000
  hunks : x.hunks.length ≤ 1000
  mtext : ∀ s ∈ x.makes, s.length ≤ 1000000
  dtext : ∀ s ∈ x.drops, s.length ≤ 1000000
  each : ∀ h ∈ x.hunks, HkSm h
/-! ### What comes first -/
theorem ltStr_anti {x y : BL} (h1 : Sort.ltStr x y = false) (h2 : Sort.ltStr y x = false) : x = y := by
  unfold Sort.ltStr at h1 h2
  rw [decide_eq_false_iff_not] at h1 h2
  exact List.le_antisymm (List.not_lt.1 h2) (List.not_lt.1 h1)
theorem ltInt_anti {x y : Int} (h1 : Sort.ltInt x y = false) (h2 : Sort.ltInt y x = false) : x = y := by
  unfold Sort.ltInt at h1 h2
  rw [decide_eq_false_iff_not] at h1 h2
  omega
theorem ltStr_gt (x y : BL) : (!(Op.bytesLess (mkB x).toList (mkB y).toList || decide (mkB x = mkB y))) = Sort.ltStr y x := by
  rw [mkB_list, mkB_list, bytesLess_iff]
  have e : decide (mkB x = mkB y) = decide (x = y) := decide_eq_decide.2 ⟨mkB_eq, fun h => by rw [h]⟩
  rw [e]
  show (!(Sort.ltStr x y || decide (x = y))) = _
  cases h : Sort.ltStr y x with
  | true =>
    have h1 := Sort.swo_ltStr.asymmA h
    rw [h1, decide_eq_false (fun e => by subst e; rw [Sort.swo_ltStr.irrefl] at h; cases h)]; rfl
  | false =>
    cases h1 : Sort.ltStr x y with
    | true => rfl
    | false => rw [decide_eq_true (ltStr_anti h1 h)]; rfl
def lidLt (a b : Lid) : Bool := decide (a.p < b.p) || decide (a.p = b.p) && decide (a.n < b.n)
def edLt (a b : Ed) : Bool := lidLt a.a b.a || decide (a.a = b.a) && lidLt a.b b.b
theorem lidLt_iff {a b : Lid} : lidLt a b = true ↔ a.p < b.p ∨ a.p = b.p ∧ a.n < b.n := by unfold lidLt; simp
theorem lid_ext {a b : Lid} (h1 : a.p = b.p) (h2 : a.n = b.n) : a = b := by cases a; cases b; simp_all
theorem edLt_iff {a b : Ed} : edLt a b = true ↔ lidLt a.a b.a = true ∨ a.a = b.a ∧ lidLt a.b b.b = true := by unfold edLt; simp
theorem ed_ext {a b : Ed} (h1 : a.a = b.a) (h2 : a.b = b.b) : a = b := by cases a; cases b; simp_all
theorem lidLt_tr (a b c : Lid) (h1 : lidLt a b = true) (h2 : lidLt b c = true) : lidLt a c = true := by rw [lidLt_iff] at *; omega
theorem lidLt_anti {a b : Lid} (h1 : lidLt a b = false) (h2 : lidLt b a = false) : a = b := by
  rw [← Bool.not_eq_true, lidLt_iff] at h1 h2
  exact lid_ext (by omega) (by omega)
theorem lidLt_irr (a : Lid) : lidLt a a = false := by rw [← Bool.not_eq_true, lidLt_iff]; omega
theorem edLt_irr (a : Ed) : edLt a a = false := by rw [← Bool.not_eq_true, edLt_iff, lidLt_irr, lidLt_irr]; simp
theorem edLt_tr (a b c : Ed) (h1 : edLt a b = true) (h2 : edLt b c = true) : edLt a c = true := by
  rw [edLt_iff] at *
  rcases h1 with h1 | ⟨e1, h1⟩ <;> rcases h2 with h2 | ⟨e2, h2⟩
  · exact .inl (lidLt_tr _ _ _ h1 h2)
  · exact .inl (by rw [← e2]; exact h1)
  · exact .inl (by rw [e1]; exact h2)
  · exact .inr ⟨e1.trans e2, lidLt_tr _ _ _ h1 h2⟩
theorem edLt_anti {a b : Ed} (h1 : edLt a b = false) (h2 : edLt b a = false) : a = b := by
  rw [← Bool.not_eq_true, edLt_iff] at h1 h2
  have ea : a.a = b.a := lidLt_anti (by cases h : lidLt a.a b.a; rfl; exact absurd (.inl h) h1) (by cases h : lidLt b.a a.a; rfl; exact absurd (.inl h) h2)
  refine ed_ext ea (lidLt_anti ?_ ?_)
  · cases h : lidLt a.b b.b; rfl; exact absurd (.inr ⟨ea, h⟩) h1
  · cases h : lidLt b.b a.b; rfl; exact absurd (.inr ⟨ea.symm, h⟩) h2
theorem ltInt_tr (x y z : Int) (h1 : Sort.ltInt x y = true) (h2 : Sort.ltInt y z = true) : Sort.ltInt x z = true := Sort.swo_ltInt.trans _ _ _ h1 h2
theorem ltStr_tr (x y z : BL) (h1 : Sort.ltStr x y = true) (h2 : Sort.ltStr y z = true) : Sort.ltStr x z = true := Sort.swo_ltStr.trans _ _ _ h1 h2
section
variable {H : Hp} {K : Int → Hp → Prop}
theorem cmp_Compare_uint32.c {x y : Int} (hK : K (cmp3 Sort.ltInt x y) H) : cmp_Compare_uint32.C x y H K := by
  apply cmp_Compare_uint32.of
  refine cmp_isNaN_uint32.of x (cmp_isNaN_uint32.of y ?_)
  refine bcd (fun h => absurd rfl h) fun _ => bcd (fun h => absurd rfl h) fun _ => ?_
  unfold cmp3 Sort.ltInt at hK
  refine bcd (fun h => ?_) fun h => bcd (fun h2 => ?_) fun h2 => ?_
  · rw [decide_eq_true h] at hK; exact hK
  · rw [decide_eq_false h, decide_eq_true h2] at hK; exact hK
  · rw [decide_eq_false h, decide_eq_false h2] at hK; exact hK
theorem cmp_Compare_int.c {x y : Int} (hK : K (cmp3 Sort.ltInt x y) H) : cmp_Compare_int.C x y H K := by
  apply cmp_Compare_int.of
  refine cmp_isNaN_int.of x (cmp_isNaN_int.of y ?_)
  refine bcd (fun h => absurd rfl h) fun _ => bcd (fun h => absurd rfl h) fun _ => ?_
  unfold cmp3 Sort.ltInt at hK
  refine bcd (fun h => ?_) fun h => bcd (fun h2 => ?_) fun h2 => ?_
  · rw [decide_eq_true h] at hK; exact hK
  · rw [decide_eq_false h, decide_eq_true h2] at hK; exact hK
  · rw [decide_eq_false h, decide_eq_false h2] at hK; exact hK
theorem cmp_Compare_string.c {x y : BL} (hK : K (cmp3 Sort.ltStr x y) H) : cmp_Compare_string.C (mkB x) (mkB y) H K := by
  apply cmp_Compare_string.of
  refine cmp_isNaN_string.of (mkB x) (cmp_isNaN_string.of (mkB y) ?_)
  refine bcd (fun h => absurd rfl h) fun _ => bcd (fun h => absurd rfl h) fun _ => ?_
  rw [ltStr_gt, mkB_list, mkB_list, bytesLess_iff]
  show bc (Sort.ltStr x y) _ _
  unfold cmp3 at hK
  refine bc_i (fun h => ?_) fun h => bc_i (fun h2 => ?_) fun h2 => ?_
  · rw [h] at hK; exact hK
  · rw [h, h2] at hK; exact hK
  · rw [h, h2] at hK; exact hK
theorem cmp_Or_int.c {p : Option Addr} {c : Nat} {x y : Int} (h : Sl (.int .i64) H p 2 c [x, y]) (hK : K (if x ≠ 0 then x else y) H) : cmp_Or_int.C p 2 c H K := by
  apply cmp_Or_int.of
  obtain ⟨b, o, rfl, hr⟩ := h.at (i := 0) (by simp)
  have r0 := hr 0 (by simp)
  have r1 := hr 1 (by simp)
  refine ⟨fun t Hx => ∃ i : Nat, t = (i : Nat) ∧ i ≤ 2 ∧ Hx = H ∧ (0 < i → x = 0) ∧ (1 < i → y = 0), fun t _ => ((2 : Int) - t).toNat, ⟨0, rfl, by omega, rfl, fun h => absurd h (by omega), fun h => absurd h (by omega)⟩, ?_⟩
  rintro t Hx ⟨i, rfl, gi, rfl, g1, g2⟩
  refine bcd (fun hlt => ?_) fun hlt => ?_
  · match i, gi with
    | 0, _ =>
      refine idxN 0 rfl (by decide) (nil (ldI_i r0 (bcd (fun hx => ?_) fun hx => ?_)))
      · rw [if_pos (show x ≠ 0 from hx)] at hK; exact hK
      · exact chk (by omega) ⟨⟨1, rfl, by omega, by trivial, fun _ => Classical.not_not.1 hx, fun h => absurd h (by omega)⟩, by first | omega | (dsimp only; omega)⟩
    | 1, _ =>
      have hx := g1 (by omega)
      rw [if_neg (by simp [hx])] at hK
      refine idxN 1 rfl (by decide) (nil (ldI_i r1 (bcd (fun _ => hK) fun hy => ?_)))
      exact chk (by omega) ⟨⟨2, rfl, by omega, by trivial, fun _ => hx, fun _ => Classical.not_not.1 hy⟩, by first | omega | (dsimp only; omega)⟩
    | 2, _ => omega
  · have : i = 2 := by omega
    subst this
    have hx := g1 (by omega)
    have hy := g2 (by omega)
    rw [if_neg (by simp [hx]), hy] at hK; exact hK
theorem pair_sl {H : Hp} {b : Nat} {x y : Int} : Sl (.int .i64) (upd H b ([.int .i64 x, .int .i64 y])) (some ⟨b, 0, none⟩) 2 2 [x, y] := by
  refine ⟨rfl, by decide, .inr ⟨b, 0, rfl, fun i hi => ?_⟩⟩
  rw [rd_upd_self]
  match i, hi with
  | 0, _ => rfl
  | 1, _ => rfl
theorem patch_Compare.c {x y : Lid} (hK : ∀ H', Le H H' → K (cmp3 lidLt x y) H') : patch_Compare.C x.p x.n y.p y.n H K := by
  apply patch_Compare.of
  intro b hb b2 hb2
  have le1 : Le H (upd H b [.int .u32 x.p, .int .i64 x.n]) := Le.upd hb
  have le2 := Le.upd (c := [.int .u32 y.p, .int .i64 y.n]) hb2
  have q0 : rd (upd H b [.int .u32 x.p, .int .i64 x.n]) b 0 = some (.int .u32 x.p) := by rw [rd_upd_self]; rfl
  have q1 : rd (upd H b [.int .u32 x.p, .int .i64 x.n]) b 1 = some (.int .i64 x.n) := by rw [rd_upd_self]; rfl
  have s0 : rd (upd (upd H b [.int .u32 x.p, .int .i64 x.n]) b2 [.int .u32 y.p, .int .i64 y.n]) b2 0 = some (.int .u32 y.p) := by rw [rd_upd_self]; rfl
  have s1 : rd (upd (upd H b [.int .u32 x.p, .int .i64 x.n]) b2 [.int .u32 y.p, .int .i64 y.n]) b2 1 = some (.int .i64 y.n) := by rw [rd_upd_self]; rfl
  refine ldI_i (le2.rd q0) (ldI_i s0 (ldI_i (le2.rd q1) (ldI_i s1 ?_)))
  refine cmp_Compare_uint32.c ⟨s1, le2.rd q1, cmp_Compare_int.c fun b3 hb3 => cmp_Or_int.c pair_sl ?_⟩
  have : (if cmp3 Sort.ltInt x.p y.p ≠ 0 then cmp3 Sort.ltInt x.p y.p else cmp3 Sort.ltInt x.n y.n) = cmp3 lidLt x y := by
    unfold cmp3 lidLt Sort.ltInt
    rcases Int.lt_trichotomy x.p y.p with h | h | h
    · simp [h]
    · rw [h]; simp
    · have h' : ¬ x.p < y.p := by omega
      have h2 : ¬ x.p = y.p := by omega
      simp [h, h', h2]
  rw [this]
  exact hK _ ((le1.trans le2).trans (Le.upd hb3))
theorem patch_CompareEdges.c {x y : Ed} (hK : ∀ H', Le H H' → K (cmp3 edLt x y) H') : patch_CompareEdges.C x.a.p x.a.n x.b.p x.b.n y.a.p y.a.n y.b.p y.b.n H K := by
  apply patch_CompareEdges.of
  intro b hb b2 hb2
  have le1 : Le H (upd H b [.int .u32 x.a.p, .int .i64 x.a.n, .int .u32 x.b.p, .int .i64 x.b.n]) := Le.upd hb
  have le2 := Le.upd (c := [.int .u32 y.a.p, .int .i64 y.a.n, .int .u32 y.b.p, .int .i64 y.b.n]) hb2
  have rx : ∀ j v, (edC x)[j]? = some v → rd (upd H b [.int .u32 x.a.p, .int .i64 x.a.n, .int .u32 x.b.p, .int .i64 x.b.n]) b j = some v := fun j v h => by
    rw [rd_upd_self]
    match j, h with
    | 0, h => simp [edC] at h; subst h; rfl
    | 1, h => simp [edC] at h; subst h; rfl
    | 2, h => simp [edC] at h; subst h; rfl
    | 3, h => simp [edC] at h; subst h; rfl
    | j + 4, h => simp [edC] at h
  have ry : ∀ j v, (edC y)[j]? = some v → rd (upd (upd H b [.int .u32 x.a.p, .int .i64 x.a.n, .int .u32 x.b.p, .int .i64 x.b.n]) b2 [.int .u32 y.a.p, .int .i64 y.a.n, .int .u32 y.b.p, .int .i64 y.b.n]) b2 j = some v := fun j v h => by
    rw [rd_upd_self]
    match j, h with
    | 0, h => simp [edC] at h; subst h; rfl
    | 1, h => simp [edC] at h; subst h; rfl
    | 2, h => simp [edC] at h; subst h; rfl
    | 3, h => simp [edC] at h; subst h; rfl
    | j + 4, h => simp [edC] at h
  refine ldI_i (le2.rd (rx 0 _ rfl)) (ldI_i (le2.rd (rx 1 _ rfl)) (ldI_i (ry 0 _ rfl) (ldI_i (ry 1 _ rfl) (ldI_i (le2.rd (rx 2 _ rfl)) (ldI_i (le2.rd (rx 3 _ rfl)) (ldI_i (ry 2 _ rfl) (ldI_i (ry 3 _ rfl) ?_)))))))
  refine patch_Compare.c (x := x.a) (y := y.a) fun H3 le3 => ⟨le3.rd (ry 2 _ rfl), le3.rd (ry 3 _ rfl), le3.rd (le2.rd (rx 2 _ rfl)), le3.rd (le2.rd (rx 3 _ rfl)), patch_Compare.c (x := x.b) (y := y.b) fun H4 le4 b3 hb3 => cmp_Or_int.c pair_sl ?_⟩
  have : (if cmp3 lidLt x.a y.a ≠ 0 then cmp3 lidLt x.a y.a else cmp3 lidLt x.b y.b) = cmp3 edLt x y := by
    unfold cmp3 edLt
    cases h1 : lidLt x.a y.a with
    | true => simp
    | false =>
      cases h2 : lidLt y.a x.a with
      | true =>
        have : x.a ≠ y.a := fun e => by rw [e, lidLt_irr] at h2; cases h2
        simp [this]
      | false =>
        have := lidLt_anti h1 h2
        simp [this]
  rw [this]
  exact hK _ ((((le1.trans le2).trans le3).trans le4).trans (Le.upd hb3))
end
/-! ### Paths, lines -/
def pathC (c : UInt8) : Bool := decide (97 ≤ c.toNat ∧ c.toNat ≤ 122 ∨ 48 ≤ c.toNat ∧ c.toNat ≤ 57 ∨ c.toNat = 46 ∨ c.toNat = 47)
def pathB (s : BL) : Bool := decide (s ≠ []) && decide (s.length ≤ 20) && s.all pathC
def lineB (s : BL) : Bool := decide (s ≠ []) && decide (s.length ≤ 60) && decide (10 ∉ s.dropLast)
theorem getD_Lp {s : ByteArray} {k : Nat} (h : k < s.size) : s.data.toList.getD k 0 = (L s)[k]'(by rw [← L_size]; exact h) := by
  have : k < (L s).length := by rw [← L_size]; exact h
  show (L s).getD k 0 = _
  simp [List.getD, this]
theorem mkB_nil_iff {s : BL} : mkB s = bs [] ↔ s = [] := ⟨fun h => congrArg L h, fun h => by rw [h]; rfl⟩
section
variable {H : Hp} {K : Bool → Hp → Prop}
theorem patch_IsPath.c {s : BL} (hs : s.length ≤ 1000000000) (hK : K (pathB s) H) : patch_IsPath.C (mkB s) H K := by
  apply patch_IsPath.of
  unfold pathB at hK
  refine bcd (fun h => ?_) fun h => ?_
  · rw [decide_eq_false (by simpa using mkB_nil_iff.1 h)] at hK; exact hK
  rw [decide_eq_true (show s ≠ [] from fun e => h (mkB_nil_iff.2 e)), Bool.true_and] at hK
  have hz : (mkB s).size = s.length := mkB_size s
  refine bcd (fun h2 => ?_) fun h2 => ?_
  · rw [decide_eq_false (by omega)] at hK; exact hK
  rw [decide_eq_true (by omega), Bool.true_and] at hK
  unfold patch_IsPath.k1
  refine ⟨fun t Hx => ∃ i : Nat, t = (i : Nat) ∧ i ≤ s.length ∧ Hx = H ∧ (s.take i).all pathC = true, fun t _ => ((s.length : Int) - t).toNat, ⟨0, rfl, Nat.zero_le _, rfl, rfl⟩, ?_⟩
  rintro t Hx ⟨i, rfl, gi, rfl, hp⟩
  refine bcd (fun hlt => ?_) fun hlt => ?_
  · have hi : i < s.length := by omega
    refine idxN i rfl (by omega) ?_
    rw [getD_Lp (by omega)]
    have ec : (L (mkB s))[i]'(by rw [← L_size]; omega) = s[i] := rfl
    simp only [ec]
    have next : pathC s[i] = true → CHK .i64 (((i : Nat) : Int) + (1 : Int)) fun x => (∃ i : Nat, x = (i : Nat) ∧ i ≤ s.length ∧ True ∧ (s.take i).all pathC = true) ∧ ((s.length : Int) - x).toNat < ((s.length : Int) - ((i : Nat) : Int)).toNat := fun h =>
      chk (by omega) ⟨⟨i + 1, by omega, by omega, trivial, by rw [List.take_succ_eq_append_getElem hi, List.all_append, hp]; simp [h]⟩, by omega⟩
    have bad : pathC s[i] = false → K false Hx := fun h => by
      have : s.all pathC = false := List.all_eq_false.2 ⟨_, List.getElem_mem hi, by rw [h]; decide⟩
      rw [this] at hK; exact hK
    unfold pathC at next bad
    repeat' first | refine bcd (fun _ => ?_) fun _ => ?_
    all_goals first | exact next (by rw [decide_eq_true_eq]; omega) | exact bad (by rw [decide_eq_false_iff_not]; omega)
  · rw [List.take_of_length_le (by omega)] at hp
    rw [hp] at hK; exact hK
theorem patch_isLine.c {s : BL} (hs : s.length ≤ 1000000000) (hK : K (lineB s) H) : patch_isLine.C (mkB s) H K := by
  apply patch_isLine.of
  unfold lineB at hK
  refine bcd (fun h => ?_) fun h => ?_
  · rw [decide_eq_false (by simpa using mkB_nil_iff.1 h)] at hK; exact hK
  have hne : s ≠ [] := fun e => h (mkB_nil_iff.2 e)
  rw [decide_eq_true hne, Bool.true_and] at hK
  have hz : (mkB s).size = s.length := mkB_size s
  refine bcd (fun h2 => ?_) fun h2 => ?_
  · rw [decide_eq_false (by omega)] at hK; exact hK
  rw [decide_eq_true (by omega), Bool.true_and] at hK
  have hpos := List.length_pos_iff.2 hne
  have hdl : s.dropLast.length = s.length - 1 := by simp
  unfold patch_isLine.k1
  refine chk (by omega) ?_
  refine ⟨fun t Hx => ∃ i : Nat, t = (i : Nat) ∧ i ≤ s.length - 1 ∧ Hx = H ∧ 10 ∉ s.take i, fun t _ => ((s.length : Int) - t).toNat, ⟨0, rfl, Nat.zero_le _, rfl, by simp⟩, ?_⟩
  rintro t Hx ⟨i, rfl, gi, rfl, hp⟩
  refine bcd (fun hlt => ?_) fun hlt => ?_
  · have hi : i < s.length := by omega
    refine idxN i rfl (by omega) ?_
    rw [getD_Lp (by omega)]
    have ec : (L (mkB s))[i]'(by rw [← L_size]; omega) = s[i] := rfl
    simp only [ec]
    refine bcd (fun h10 => ?_) fun h10 => ?_
    · have e : s[i] = 10 := UInt8.toNat_inj.1 (by show _ = 10; omega)
      have hm : (10 : UInt8) ∈ s.dropLast := by
        rw [← e, List.dropLast_eq_take]
        refine List.mem_iff_getElem.2 ⟨i, by simp; omega, by simp⟩
      rw [decide_eq_false (fun h => h hm)] at hK; exact hK
    · refine chk (by omega) ⟨⟨i + 1, by omega, by omega, by trivial, fun hm => ?_⟩, by first | omega | (dsimp only; omega)⟩
      rw [List.take_succ_eq_append_getElem hi, List.mem_append] at hm
      rcases hm with hm | hm
      · exact hp hm
      · simp at hm
        exact h10 (by rw [← hm]; rfl)
  · have : i = s.length - 1 := by omega
    rw [this, ← List.dropLast_eq_take] at hp
    rw [decide_eq_true hp] at hK; exact hK
def pathsB (l : List BL) : Bool := decide (l.length ≤ 6) && (rsB Sort.ltStr l && l.all pathB)
theorem patch_paths.c {p : Option Addr} {l c : Nat} {xs : List BL} (h : Sl sv H p l c xs) (hl : l ≤ 1000000000) (ht : ∀ s ∈ xs, s.length ≤ 1000000000) (hK : ∀ H', Le H H' → K (pathsB xs) H') : patch_paths.C p l c H K := by
  apply patch_paths.of
  have el := h.len
  unfold pathsB at hK
  refine bcd (fun h6 => ?_) fun h6 => ?_
  · rw [decide_eq_true (by omega)] at hK
    simp only [Bool.true_and] at hK
    refine patch_rises_string.c (lt := Sort.ltStr) h hl (fun Hx x y K _ hk => ?_) fun H1 le1 => bc_i (fun hr => ?_) fun hr => ?_
    · show cmp_Compare_string.C (mkB x) (mkB y) Hx K
      exact cmp_Compare_string.c (hk Hx (Le.refl _))
    · rw [hr] at hK
      simp only [Bool.true_and] at hK
      refine slices_ContainsFunc_string_string.c (q := fun s => !pathB s) (h.le le1) hl (fun Hx x hx K _ hk => ?_) fun H2 le2 => ?_
      · show patch_paths_1.C (mkB x) Hx K
        apply patch_paths_1.of
        exact patch_IsPath.c (ht x hx) (hk Hx (Le.refl _))
      · have e : (!xs.any fun s => !pathB s) = xs.all pathB := by
          rw [Bool.eq_iff_iff]; simp
        rw [e]; exact hK H2 (le1.trans le2)
    · rw [hr] at hK
      exact hK H1 le1
  · rw [decide_eq_false (by omega)] at hK
    exact hK H (Le.refl _)
end
end Go.Proofs.YtbpbgkpkkklipaaGreat
namespace Go.Proofs.YtbpbgkpkkklipaaGreat
open Go.V
/-! ### Blocks of edges, of lines; what an append may rest on -/
def DE (H : Hp) (b : Nat) (e : Ed) : Prop := rd H b 0 = some (.int .u32 e.a.p) ∧ rd H b 1 = some (.int .i64 e.a.n) ∧ rd H b 2 = some (.int .u32 e.b.p) ∧ rd H b 3 = some (.int .i64 e.b.n)
def DL (H : Hp) (b : Nat) (x : Lid) : Prop := rd H b 0 = some (.int .u32 x.p) ∧ rd H b 1 = some (.int .i64 x.n)
section
variable {H H' : Hp} {b : Nat} {e : Ed} {x : Lid}
theorem DE.le (h : DE H b e) (hl : Le H H') : DE H' b e := ⟨hl.rd h.1, hl.rd h.2.1, hl.rd h.2.2.1, hl.rd h.2.2.2⟩
theorem DL.le (h : DL H b x) (hl : Le H H') : DL H' b x := ⟨hl.rd h.1, hl.rd h.2⟩
theorem DE.new : DE (upd H b [.int .u32 e.a.p, .int .i64 e.a.n, .int .u32 e.b.p, .int .i64 e.b.n]) b e := ⟨by rw [rd_upd_self]; rfl, by rw [rd_upd_self]; rfl, by rw [rd_upd_self]; rfl, by rw [rd_upd_self]; rfl⟩
theorem DL.new : DL (upd H b [.int .u32 x.p, .int .i64 x.n]) b x := ⟨by rw [rd_upd_self]; rfl, by rw [rd_upd_self]; rfl⟩
theorem DE.mk {i0 i1 i2 i3 : Int} {F : Nat → Hp → Prop} (hF : ∀ q H', H q = none → DE H' q e → Le H H' → F q H') :
    NEW H [.int .u32 i0, .int .i64 i1, .int .u32 i2, .int .i64 i3] fun q H1 => ST H1 q 0 (.int .u32 e.a.p) fun H2 => ST H2 q 1 (.int .i64 e.a.n) fun H3 => ST H3 q 2 (.int .u32 e.b.p) fun H4 => ST H4 q 3 (.int .i64 e.b.n) fun H5 => F q H5 :=
  fun q hq => ST_upd rfl (ST_upd rfl (ST_upd rfl (ST_upd rfl (hF q _ hq DE.new (Le.upd hq)))))
theorem DL.mk {i0 i1 : Int} {F : Nat → Hp → Prop} (hF : ∀ q H', H q = none → DL H' q x → Le H H' → F q H') :
    NEW H [.int .u32 i0, .int .i64 i1] fun q H1 => ST H1 q 0 (.int .u32 x.p) fun H2 => ST H2 q 1 (.int .i64 x.n) fun H3 => F q H3 :=
  fun q hq => ST_upd rfl (ST_upd rfl (hF q _ hq DL.new (Le.upd hq)))
end
theorem all_next {α : Type} {f : α → Bool} {xs : List α} {i : Nat} (hi : i < xs.length) (h : (xs.take i).all f = true) (h' : f xs[i] = true) : (xs.take (i + 1)).all f = true := by
  rw [List.take_succ_eq_append_getElem hi, List.all_append, h]; simp [h']
theorem all_bad {α : Type} {f : α → Bool} {xs : List α} {i : Nat} (hi : i < xs.length) (h' : f xs[i] = false) : xs.all f = false := List.all_eq_false.2 ⟨_, List.getElem_mem hi, by rw [h']; decide⟩
theorem all_end {α : Type} {f : α → Bool} {xs : List α} {i : Nat} (h : (xs.take i).all f = true) (hi : xs.length ≤ i) : xs.all f = true := by rwa [List.take_of_length_le hi] at h
section
variable {s : Nat} {A A' H H' : Hp} {p : Option Addr} {l c : Nat} {cells : List Value}
theorem bApp2 (hB : Buf 1 A H p l c cells) (hA : Le A H) {te : TE} {x y : Value} (hs : te.size = 1) (hz : te.zc.length = 1) (hbp : 0 < te.bytes) (hx : isCell x = true) (hy : isCell y = true) (hfit : (l + 2) * te.bytes ≤ 140737488355328) {F : Option Addr → Nat → Nat → Hp → Prop}
    (hF : ∀ p' c' H', Buf 1 A H' p' (l + 2) c' (cells ++ [x, y]) → Le A H' → F p' (l + 2) c' H') (hzc : te.zc.all isCell = true := by rfl) (htl : te.tl = [] := by rfl) :
    NEW H [x, y] fun b H1 => APP H1 te p l c (.slice (some ⟨b, 0, none⟩) 2 2) F := by
  intro b hb
  exact (hB.le (.upd hb)).appN hs (by decide) hz hbp (n := 2) (new := [x, y]) rfl (by simp [hx, hy]) hfit (hA.trans (.upd hb)) (fun G hG => ⟨[x, y], rdN_self (by simp [upd]) rfl (by simp [hx, hy]), hG⟩) (fun p' c' H' h1 h2 _ => hF p' c' H' h1 h2) hzc htl
theorem but_rd {b o : Nat} {v : Value} (h : rd H b o = some v) (hp : b ∉ blkL p) : rd (but H p) b o = some v := by
  have : but H p b = H b := by
    unfold but
    split
    · rw [if_neg (fun e => hp (by rw [e]; simp [blkL]))]
    · rfl
  unfold rd at h ⊢
  rw [this]; exact h
theorem bNblk (hB : Buf s A H p l c cells) {b : Nat} (hb : A b ≠ Option.none) : b ∉ blkL p := fun h => hb (hB.fr b 0 (blkL_mem hB.zero h))
theorem bNblkN (hB : Buf s A H p l c cells) {b : Nat} (hb : H b = Option.none) : b ∉ blkL p := fun h => hB.there (blkL_mem hB.zero h) hb
theorem bCut (hB : Buf s A H p l c cells) : Buf s (but H p) H p l c cells := hB.base fun b hb _ => by unfold but; rw [hb]; simp
theorem bCutLe (hB : Buf s A H p l c cells) (hA : Le A H) : Le A (but H p) := fun b d e => by
  have hn : b ∉ blkL p := bNblk hB (by rw [e]; intro h; cases h)
  have : but H p b = H b := by
    unfold but
    split
    · rw [if_neg (fun e => hn (by rw [e]; simp [blkL]))]
    · rfl
  rw [this]; exact hA _ _ e
theorem bBack (hB : Buf s A' H p l c cells) (h : Le A A') : Buf s A H p l c cells := hB.base fun _ _ e => none_of_le h e
end
/-! ### Is it a hunk -/
def namedB (id fr n : Int) (x : Lid) : Bool := decide (0 ≤ x.n) && (decide (x.n < 40) && (decide (¬ x.p = id) || (decide (fr ≤ x.n) && decide (x.n < fr + n))))
def hunkB (id fr : Int) (h : Hk) : Bool :=
  decide (h.adds.length ≤ 40) && (decide (h.edges.length ≤ 80) && (decide (h.kills.length ≤ 40) && (h.adds.all lineB && ((h.edges.all fun e => namedB id fr h.adds.length e.a && (namedB id fr h.adds.length e.b && decide (¬ e.a = e.b))) && ((h.kills.all fun k => namedB id fr h.adds.length k && decide (¬ k.p = id)) && (rsB edLt h.edges && rsB lidLt h.kills))))))
section
variable {H : Hp} {K : Bool → Hp → Prop}
theorem patch_isHunk_1.c {c3 c4 c5 : Nat} {x : Lid} {id fr : Int} {ap : Option Addr} {al ac : Nat} (h3 : rd H c3 0 = some (.int .u32 id)) (h4 : rd H c4 0 = some (.int .i64 fr)) (h5 : rd H c5 1 = some (.slice ap al ac)) (hs : 0 ≤ fr ∧ fr + al ≤ 2000000000) (hK : ∀ H', Le H H' → K (namedB id fr al x) H') : patch_isHunk_1.C x.p x.n c3 c4 c5 H K := by
  apply patch_isHunk_1.of
  intro b hb
  have le := Le.upd (c := [.int .u32 x.p, .int .i64 x.n]) hb
  have d := DL.new (H := H) (b := b) (x := x)
  have hK := hK _ le
  unfold namedB at hK
  have tail : ∀ own, own = (decide (¬ x.p = id) || (decide (fr ≤ x.n) && decide (x.n < fr + al))) → patch_isHunk_1.k1 K b own (upd H b [.int .u32 x.p, .int .i64 x.n]) := by
    intro own e
    rw [← e] at hK
    unfold patch_isHunk_1.k1
    refine ldI_i d.2 (bcd (fun h => ldI_i d.2 (bcd (fun h2 => ?_) fun h2 => ?_)) fun h => ?_)
    · rw [decide_eq_true h, decide_eq_true h2] at hK; simpa using hK
    · rw [decide_eq_true h, decide_eq_false h2] at hK; simpa using hK
    · rw [decide_eq_false h] at hK; simpa using hK
  refine ldI_i d.1 (ldI_i (le.rd h3) (bcd (fun h => tail _ (by simp [h])) fun h => ldI_i d.2 (ldI_i (le.rd h4) (bcd (fun h2 => ldI_i d.2 (ldI_i (le.rd h4) (ldL_i (le.rd h5) (chk (by omega) (tail _ ?_))))) fun h2 => tail _ ?_))))
  · rw [decide_eq_false h, decide_eq_true h2]; simp
  · rw [decide_eq_false h, decide_eq_false h2]; rfl
theorem patch_isHunk.c {id fr : Int} {h : Hk} {ap ep kp : Option Addr} {al ac el ec kl kc : Nat} (ha : Sl sv H ap al ac h.adds) (he : Sn 4 edC H ep el ec h.edges) (hk : Sn 2 lidC H kp kl kc h.kills) (hsm : HkSm h) (hf : 0 ≤ fr ∧ fr ≤ 1000000000) (hK : ∀ H', Le H H' → K (hunkB id fr h) H') : patch_isHunk.C id (mkB h.path) ap al ac ep el ec kp kl kc fr H K := by
  apply patch_isHunk.of
  intro b1 hb1 b2 hb2 b3 hb3
  have l1 := Le.upd (c := [.int .u32 id]) hb1
  have l2 := Le.upd (c := [.string (mkB h.path), .slice ap al ac, .slice ep el ec, .slice kp kl kc]) hb2
  have l3 := Le.upd (c := [.int .i64 fr]) hb3
  have ea := ha.len
  have ee := he.len
  have ek := hk.len
  have hsa := hsm.adds
  have hse := hsm.edges
  have hsk := hsm.kills
  have d := (D4.new (H := upd H b1 [.int .u32 id]) (b := b2) (f := mkB h.path) (ap := ap) (al := al) (ac := ac) (ep := ep) (el := el) (ec := ec) (kp := kp) (kl := kl) (kc := kc)).le l3
  have c1 : rd (upd H b1 [.int .u32 id]) b1 0 = some (.int .u32 id) := by rw [rd_upd_self]; rfl
  have c1 := l3.rd (l2.rd c1)
  have c3 : rd (upd (upd (upd H b1 [.int .u32 id]) b2 [.string (mkB h.path), .slice ap al ac, .slice ep el ec, .slice kp kl kc]) b3 [.int .i64 fr]) b3 0 = some (.int .i64 fr) := by rw [rd_upd_self]; rfl
  have l0 := (l1.trans l2).trans l3
  revert d c1 c3 l0
  generalize upd (upd (upd H b1 [.int .u32 id]) b2 [.string (mkB h.path), .slice ap al ac, .slice ep el ec, .slice kp kl kc]) b3 [.int .i64 fr] = H3
  intro d c1 c3 l0
  unfold hunkB at hK
  refine ldL_i d.2.1 (bcd (fun hh => ?_) fun h1 => ldL_i d.2.2.1 (bcd (fun hh => ?_) fun h2 => ldL_i d.2.2.2 (bcd (fun hh => ?_) fun h3 => ?_)))
  · have := hK _ l0
    rw [decide_eq_false (by omega)] at this; exact this
  · have := hK _ l0
    rw [decide_eq_true (by omega), decide_eq_false (by omega)] at this; exact this
  · have := hK _ l0
    rw [decide_eq_true (by omega), decide_eq_true (by omega), decide_eq_false (by omega)] at this; exact this
  have hal : (al : Int) = (h.adds.length : Nat) := by omega
  rw [decide_eq_true (by omega), decide_eq_true (by omega), decide_eq_true (by omega)] at hK
  simp only [Bool.true_and] at hK
  unfold patch_isHunk.k1
  refine ldL_i d.2.1 ⟨fun t Hx => ∃ i : Nat, t = (i : Nat) ∧ i ≤ al ∧ Le H3 Hx ∧ (h.adds.take i).all lineB = true, fun t _ => ((al : Int) - t).toNat, ⟨0, rfl, Nat.zero_le _, Le.refl _, rfl⟩, ?_⟩
  rintro t Hx ⟨i, rfl, gi, le4, hp⟩
  refine bcd (fun hlt => ?_) fun hlt => ?_
  · have hi : i < h.adds.length := by omega
    refine rsT (ha.le (l0.trans le4)) rfl hi ?_
    refine patch_isLine.c (Nat.le_trans (hsm.text _ (List.getElem_mem hi)) (by decide)) (bcn (fun hb => ?_) fun hb => ?_)
    · have := hK _ (l0.trans le4)
      rw [all_bad hi hb] at this; exact this
    · exact chk (by omega) ⟨⟨i + 1, by omega, by omega, le4, all_next hi hp hb⟩, by first | omega | (dsimp only; omega)⟩
  rw [all_end hp (by omega)] at hK
  simp only [Bool.true_and] at hK
  have d4 := d.le le4
  have nm : ∀ {Hy : Hp} (_ : Le H3 Hy) (x : Lid) (G : Bool → Hp → Prop), (∀ H', Le Hy H' → G (namedB id fr h.adds.length x) H') → patch_isHunk_1.C x.p x.n b1 b3 b2 Hy G := fun {Hy} ly x G hG =>
    patch_isHunk_1.c (ly.rd c1) (ly.rd c3) (d.le ly).2.1 (by omega) (by rw [hal]; exact hG)
  refine ldL_i d4.2.2.1 ⟨fun t Hx => ∃ i : Nat, t = (i : Nat) ∧ i ≤ el ∧ Le H3 Hx ∧ ((h.edges.take i).all fun e => namedB id fr h.adds.length e.a && (namedB id fr h.adds.length e.b && decide (¬ e.a = e.b))) = true, fun t _ => ((el : Int) - t).toNat, ⟨0, rfl, Nat.zero_le _, le4, rfl⟩, ?_⟩
  rintro t Hx ⟨i, rfl, gi, le5, hp⟩
  refine bcd (fun hlt => ?_) fun hlt => ?_
  · have hi : i < h.edges.length := by omega
    have bad : ∀ {Hy}, Le H3 Hy → (namedB id fr h.adds.length h.edges[i].a && (namedB id fr h.adds.length h.edges[i].b && decide (¬ h.edges[i].a = h.edges[i].b))) = false → K false Hy := fun {Hy} ly hb => by
      have := hK _ (l0.trans ly)
      rw [all_bad (f := fun e => namedB id fr h.adds.length e.a && (namedB id fr h.adds.length e.b && decide (¬ e.a = e.b))) hi hb] at this; exact this
    refine rsE (he.le (l0.trans le5)) rfl hi (DE.mk (e := h.edges[i]) fun q H6 hq dq le6 => ldI_i dq.1 (ldI_i dq.2.1 ?_))
    refine nm (le5.trans le6) h.edges[i].a _ fun H7 le7 => bcn (fun hb => bad ((le5.trans le6).trans le7) (by rw [hb]; rfl)) fun hb => ?_
    have dq := dq.le le7
    refine ldI_i dq.2.2.1 (ldI_i dq.2.2.2 (nm ((le5.trans le6).trans le7) h.edges[i].b _ fun H8 le8 => bcn (fun hb2 => bad (((le5.trans le6).trans le7).trans le8) (by rw [hb, hb2]; rfl)) fun hb2 => ?_))
    have dq := dq.le le8
    refine ldI_i dq.1 (ldI_i dq.2.1 (ldI_i dq.2.2.1 (ldI_i dq.2.2.2 (bc_i (fun hc => ?_) fun hc => ?_))))
    · rw [Bool.and_eq_true, decide_eq_true_eq, decide_eq_true_eq] at hc
      have := lid_ext hc.1 hc.2
      exact bad (((le5.trans le6).trans le7).trans le8) (by simp [this])
    · have : ¬ h.edges[i].a = h.edges[i].b := fun e => by rw [e] at hc; simp at hc
      exact chk (by omega) ⟨⟨i + 1, by omega, by omega, ((le5.trans le6).trans le7).trans le8, all_next hi hp (by rw [hb, hb2]; simp [this])⟩, by first | omega | (dsimp only; omega)⟩
  rw [all_end hp (by omega)] at hK
  simp only [Bool.true_and] at hK
  have d5 := d.le le5
  refine ldL_i d5.2.2.2 ⟨fun t Hx => ∃ i : Nat, t = (i : Nat) ∧ i ≤ kl ∧ Le H3 Hx ∧ ((h.kills.take i).all fun k => namedB id fr h.adds.length k && decide (¬ k.p = id)) = true, fun t _ => ((kl : Int) - t).toNat, ⟨0, rfl, Nat.zero_le _, le5, rfl⟩, ?_⟩
  rintro t Hx ⟨i, rfl, gi, le6, hp⟩
  refine bcd (fun hlt => ?_) fun hlt => ?_
  · have hi : i < h.kills.length := by omega
    have bad : ∀ {Hy}, Le H3 Hy → (namedB id fr h.adds.length h.kills[i] && decide (¬ h.kills[i].p = id)) = false → K false Hy := fun {Hy} ly hb => by
      have := hK _ (l0.trans ly)
      rw [all_bad (f := fun k => namedB id fr h.adds.length k && decide (¬ k.p = id)) hi hb] at this; exact this
    refine rsL (hk.le (l0.trans le6)) rfl hi (DL.mk (x := h.kills[i]) fun q H7 hq dq le7 => ldI_i dq.1 (ldI_i dq.2 ?_))
    refine nm (le6.trans le7) h.kills[i] _ fun H8 le8 => bcn (fun hb => bad ((le6.trans le7).trans le8) (by rw [hb]; rfl)) fun hb => ?_
    have dq := dq.le le8
    refine ldI_i dq.1 (ldI_i (((le6.trans le7).trans le8).rd c1) (bcd (fun hc => bad ((le6.trans le7).trans le8) (by simp [hc])) fun hc => ?_))
    exact chk (by omega) ⟨⟨i + 1, by omega, by omega, (le6.trans le7).trans le8, all_next hi hp (by rw [hb]; simp [hc])⟩, by first | omega | (dsimp only; omega)⟩
  rw [all_end hp (by omega)] at hK
  simp only [Bool.true_and] at hK
  have d6 := d.le le6
  refine ldL_i d6.2.2.1 (patch_rises_api_Edge.c (lt := edLt) (he.le (l0.trans le6)) (by omega) (fun Hx x y G _ hk => ?_) fun H7 le7 => bc_i (fun hr => ?_) fun hr => ?_)
  · show patch_CompareEdges.C x.a.p x.a.n x.b.p x.b.n y.a.p y.a.n y.b.p y.b.n Hx G
    exact patch_CompareEdges.c hk
  · rw [hr] at hK
    simp only [Bool.true_and] at hK
    refine ldL_i (d6.le le7).2.2.2 (patch_rises_api_LineID.c (lt := lidLt) (hk.le ((l0.trans le6).trans le7)) (by omega) (fun Hx x y G _ hk => ?_) fun H8 le8 => hK _ (((l0.trans le6).trans le7).trans le8))
    show patch_Compare.C x.p x.n y.p y.n Hx G
    exact patch_Compare.c hk
  · rw [hr] at hK
    exact hK _ ((l0.trans le6).trans le7)
end
end Go.Proofs.YtbpbgkpkkklipaaGreat
namespace Go.Proofs.YtbpbgkpkkklipaaGreat
open Go.V
/-! ### What it needs -/
theorem rsH2 {H Hx : Hp} {p : Option Addr} {l c : Nat} {hs : List Hk} (h : HkH H p l c hs) (le : Le H Hx) {k : Nat} {e : Int} (he : e = (k : Int)) (hk : k < hs.length) {F : ByteArray → Option Addr → Nat → Nat → Option Addr → Nat → Nat → Option Addr → Nat → Nat → Prop}
    (hF : ∀ ap al ac ep el ec kp kl kc, Sl sv H ap al ac hs[k].adds → Sn 4 edC H ep el ec hs[k].edges → Sn 2 lidC H kp kl kc hs[k].kills → F (mkB hs[k].path) ap al ac ep el ec kp kl kc) :
    IDX e l fun k => NIL p fun b o => ldS (rd Hx b (o + (k * 4))) fun x => ldL (rd Hx b ((o + (k * 4)) + 1)) fun ap al ac => ldL (rd Hx b (((o + (k * 4)) + 1) + 1)) fun ep el ec => ldL (rd Hx b ((((o + (k * 4)) + 1) + 1) + 1)) fun kp kl kc => F x ap al ac ep el ec kp kl kc := by
  have hl := h.1
  rcases h.2.2 with h0 | ⟨b, o, rfl, hh⟩
  · subst h0; simp at hk
  · obtain ⟨ap, al, ac, ep, el, ec, kp, kl, kc, h1, h2, h3, h4, h5, h6, h7⟩ := hh k hk
    exact idxN k he (by omega) (nil (ldS_i (le.rd h1) (ldL_i (le.rd h2) (ldL_i (le.rd h3) (ldL_i (le.rd h4) (hF _ _ _ _ _ _ _ _ _ h5 h6 h7))))))
def edN (e : Ed) : List Int := [e.a.p, e.b.p]
def hkNames (h : Hk) : List Int := h.edges.flatMap edN ++ h.kills.map (·.p)
def ptNames (x : Pt) : List Int := x.hunks.flatMap hkNames
def needsL (x : Pt) : List Int := uniqL Sort.ltInt ((ptNames x).filter fun y => !decide (y = x.id))
theorem flatMap_lenLe {α β : Type} {f : α → List β} {m : Nat} : ∀ {xs : List α}, (∀ x ∈ xs, (f x).length ≤ m) → (xs.flatMap f).length ≤ xs.length * m
  | [], _ => by simp
  | x :: xs, h => by
    have h1 := h x (by simp)
    have h2 := flatMap_lenLe (xs := xs) fun y hy => h y (List.mem_cons_of_mem _ hy)
    rw [List.flatMap_cons, List.length_append, List.length_cons, Nat.add_mul]; omega
theorem hkNames_len {h : Hk} (hs : HkSm h) : (hkNames h).length ≤ 3000 := by
  have h1 : (h.edges.flatMap edN).length ≤ h.edges.length * 2 := flatMap_lenLe fun e _ => by simp [edN]
  have h2 := hs.edges
  have h3 := hs.kills
  unfold hkNames
  rw [List.length_append, List.length_map]; omega
theorem ptNames_take {x : Pt} (hs : PtSm x) (i : Nat) : ((x.hunks.take i).flatMap hkNames).length ≤ 3000000 := by
  have h1 := flatMap_lenLe (m := 3000) (xs := x.hunks.take i) (f := hkNames) fun h hh => hkNames_len (hs.each h (List.mem_of_mem_take hh))
  have h2 := hs.hunks
  have h3 : (x.hunks.take i).length ≤ 1000 := by rw [List.length_take]; omega
  have : (x.hunks.take i).length * 3000 ≤ 1000 * 3000 := Nat.mul_le_mul_right _ h3
  omega
theorem flatMap_snoc {α β : Type} {f : α → List β} {xs : List α} {i : Nat} (hi : i < xs.length) : (xs.take (i + 1)).flatMap f = (xs.take i).flatMap f ++ f xs[i] := by rw [List.take_succ_eq_append_getElem hi, List.flatMap_append, List.flatMap_cons, List.flatMap_nil, List.append_nil]
theorem map_snoc {α β : Type} {f : α → β} {xs : List α} {i : Nat} (hi : i < xs.length) : (xs.take (i + 1)).map f = (xs.take i).map f ++ [f xs[i]] := by rw [List.take_succ_eq_append_getElem hi, List.map_append]; rfl
theorem ltInt_irr (x : Int) : Sort.ltInt x x = false := Sort.swo_ltInt.irrefl x
theorem ltStr_irr (x : BL) : Sort.ltStr x x = false := Sort.swo_ltStr.irrefl x
section
variable {H : Hp} {id : Int} {dp mp qp hp : Option Addr} {dl dc ml mc ql qc hl hc : Nat} {x : Pt}
theorem patch_Needs.c {K : Option Addr → Nat → Nat → Hp → Prop} (h : PtS H id dp dl dc mp ml mc qp ql qc hp hl hc x) (hs : PtSm x) (hK : ∀ p l c H', Le H H' → Sl fU H' p l c (needsL x) → PtOk p → l ≤ 1000000000 → K p l c H') : patch_Needs.C id dp dl dc mp ml mc qp ql qc hp hl hc H K := by
  apply patch_Needs.of
  intro b hb
  have l1 := Le.upd (c := [.int .u32 id, .slice dp dl dc, .slice mp ml mc, .slice qp ql qc, .slice hp hl hc]) hb
  have d := D5.new (H := H) (b := b) (id := id) (dp := dp) (dl := dl) (dc := dc) (mp := mp) (ml := ml) (mc := mc) (qp := qp) (ql := ql) (qc := qc) (hp := hp) (hl := hl) (hc := hc)
  revert l1 d
  generalize upd H b [.int .u32 id, .slice dp dl dc, .slice mp ml mc, .slice qp ql qc, .slice hp hl hc] = H1
  intro l1 d
  obtain ⟨rfl, hd, hm, hq, hh⟩ := h
  have eh := hh.1
  have hsh := hs.hunks
  have bnd := ptNames_take hs
  have hh1 := HkH_le hh l1
  refine ldL_i d.2.2.2.2 ⟨fun p l c t Hx => ∃ i : Nat, t = (i : Nat) ∧ i ≤ hl ∧ Le H1 Hx ∧ Buf 1 H1 Hx p l c (((x.hunks.take i).flatMap hkNames).map fU), fun _ _ _ t _ => ((hl : Int) - t).toNat, ⟨0, rfl, Nat.zero_le _, Le.refl _, Buf.none⟩, ?_⟩
  rintro p l c t Hx ⟨i, rfl, gi, lx, hB⟩
  have hlen : l = ((x.hunks.take i).flatMap hkNames).length := by have := hB.1; simpa using this
  have hl3 := bnd i
  refine bcd (fun hlt => ?_) fun hlt => ?_
  · have hi : i < x.hunks.length := by omega
    have hsm := hs.each _ (List.getElem_mem hi)
    have hse := hsm.edges
    have hsk := hsm.kills
    refine rsH2 hh1 lx rfl hi fun ap al ac ep el ec kp kl kc s1 s2 s3 => ?_
    refine D4.mk fun q H2 hq2 dq l2 => ?_
    have ee := s2.len
    have ek := s3.len
    have hB2 := hB.le l2
    have hn := bNblkN hB hq2
    have hcutLe := bCutLe hB2 (lx.trans l2)
    have hB3 := bCut hB2
    have dqc : D4 (but H2 p) q (mkB x.hunks[i].path) ap al ac ep el ec kp kl kc := ⟨but_rd dq.1 hn, but_rd dq.2.1 hn, but_rd dq.2.2.1 hn, but_rd dq.2.2.2 hn⟩
    have l3 : Le (but H2 p) H2 := but_le
    revert hcutLe hB3 dqc l3
    generalize but H2 p = A
    intro hcutLe hB3 dqc l3
    refine ldL_i dq.2.2.1 ⟨fun p l c t Hx => ∃ j : Nat, t = (j : Nat) ∧ j ≤ el ∧ Le A Hx ∧ Buf 1 A Hx p l c (((x.hunks.take i).flatMap hkNames ++ (x.hunks[i].edges.take j).flatMap edN).map fU), fun _ _ _ t _ => ((el : Int) - t).toNat, ⟨0, rfl, Nat.zero_le _, l3, by simpa using hB3⟩, ?_⟩
    clear hB hB2 hB3 hlen hn l2 l3 dq hq2 s1
    rintro p l c t Hx ⟨j, rfl, gj, ly, hB⟩
    have hlen : l = ((x.hunks.take i).flatMap hkNames ++ (x.hunks[i].edges.take j).flatMap edN).length := by have := hB.1; simpa using this
    have hjl : ((x.hunks[i].edges.take j).flatMap edN).length ≤ (x.hunks[i].edges.take j).length * 2 := flatMap_lenLe fun e _ => by simp [edN]
    rw [List.length_append] at hlen
    rw [List.length_take] at hjl
    refine bcd (fun hlt2 => ?_) fun hlt2 => ?_
    · have hj : j < x.hunks[i].edges.length := by omega
      refine rsE (s2.le (hcutLe.trans ly)) rfl hj (DE.mk (e := x.hunks[i].edges[j]) fun q2 H3 hq3 de l3 => ldI_i de.1 (ldI_i de.2.2.1 ?_))
      refine bApp2 (hB.le l3) (ly.trans l3) (te := te_uint32) rfl rfl (by decide) rfl rfl (by simp [te_uint32]; omega) (fun p' c' H4 hB4 l4 => ?_)
      refine chk (by omega) ⟨⟨j + 1, by omega, by omega, l4, ?_⟩, by first | omega | (dsimp only; omega)⟩
      rw [flatMap_snoc hj, ← List.append_assoc, List.map_append]; exact hB4
    rw [List.take_of_length_le (show x.hunks[i].edges.length ≤ j by omega)] at hB
    have dqy := dqc.le ly
    refine ldL_i dqy.2.2.2 ⟨fun p l c t Hx => ∃ j : Nat, t = (j : Nat) ∧ j ≤ kl ∧ Le A Hx ∧ Buf 1 A Hx p l c (((x.hunks.take i).flatMap hkNames ++ (x.hunks[i].edges.flatMap edN ++ (x.hunks[i].kills.take j).map (·.p))).map fU), fun _ _ _ t _ => ((kl : Int) - t).toNat, ⟨0, rfl, Nat.zero_le _, ly, by simpa using hB⟩, ?_⟩
    clear hB hlen
    rintro p l c t Hx ⟨j, rfl, gj, lz, hB⟩
    have hlen : l = ((x.hunks.take i).flatMap hkNames ++ (x.hunks[i].edges.flatMap edN ++ (x.hunks[i].kills.take j).map (·.p))).length := by have := hB.1; simpa using this
    have hjl : (x.hunks[i].edges.flatMap edN).length ≤ x.hunks[i].edges.length * 2 := flatMap_lenLe fun e _ => by simp [edN]
    rw [List.length_append, List.length_append, List.length_map, List.length_take] at hlen
    refine bcd (fun hlt2 => ?_) fun hlt2 => ?_
    · have hj : j < x.hunks[i].kills.length := by omega
      refine rsL (s3.le (hcutLe.trans lz)) rfl hj (DL.mk (x := x.hunks[i].kills[j]) fun q2 H3 hq3 de l3 => ldI_i de.1 ?_)
      refine (hB.le l3).app1 (lz.trans l3) (te := te_uint32) (new := [fU x.hunks[i].kills[j].p]) rfl (by decide) rfl (by decide) rfl rfl (by simp [te_uint32]; omega) (fun p' c' H4 hB4 l4 _ => ?_)
      refine chk (by omega) ⟨⟨j + 1, by omega, by omega, l4, ?_⟩, by first | omega | (dsimp only; omega)⟩
      rw [map_snoc hj, ← List.append_assoc, ← List.append_assoc, List.map_append]
      rw [← List.append_assoc] at hB4; exact hB4
    · refine chk (by omega) ⟨⟨i + 1, by omega, by omega, hcutLe.trans lz, ?_⟩, by first | omega | (dsimp only; omega)⟩
      rw [List.take_of_length_le (show x.hunks[i].kills.length ≤ j by omega)] at hB
      rw [flatMap_snoc hi]; exact bBack hB hcutLe
  · rw [List.take_of_length_le (by omega)] at hB hlen
    rw [List.take_of_length_le (by omega)] at hl3
    have hnb : b ∉ blkL p := bNblk hB d.there
    have hS : Sl fU Hx p l c (ptNames x) := hB.sl
    have hfresh : ∀ y ∈ blkL p, H1 y = none := fun y hy => hB.fr y 0 (blkL_mem hB.zero hy)
    refine slices_DeleteFunc_uint32_uint32.c (q := fun y => decide (y = x.id)) hS (by omega) hB.pt (fun Hy y _ G my hk => ?_) fun l' H2 s2 m2 => ?_
    · show patch_Needs_1.C y b Hy G
      apply patch_Needs_1.of
      exact ldI_i (((d.le lx).mod my hnb).1) (hk Hy (Le.refl _))
    have el2 := s2.len
    have hfl : ((ptNames x).filter fun y => !decide (y = x.id)).length ≤ (ptNames x).length := List.length_filter_le _ _
    have hpl : (ptNames x).length = l := by unfold ptNames; omega
    refine slices_Sort_uint32_uint32.c s2 (by omega) fun H3 ys s3 hpm hsrt m3 => ?_
    have el3 := s3.len
    refine slices_Compact_uint32_uint32.c s3 (by omega) fun l4 H4 s4 m4 => ?_
    have el4 := s4.len
    have hdl := ddTo_len ys ys.length
    have e : ddTo ys ys.length = needsL x := dd_uniq ltInt_irr ltInt_tr (fun _ _ => ltInt_anti) hpm hsrt
    rw [e] at s4
    exact hK p l4 c H4 (l1.trans (((m2.trans m3).trans m4).le lx hfresh)) s4 hB.pt (by omega)
end
end Go.Proofs.YtbpbgkpkkklipaaGreat
namespace Go.Proofs.YtbpbgkpkkklipaaGreat
open Go.V
/-! ### Is it a patch -/
def depsB (x : Pt) : Bool := decide (x.deps.length ≤ 60) && (rsB Sort.ltInt x.deps && (!decide ((0 : Int) ∈ x.deps) && (!decide (x.id ∈ x.deps) && (needsL x).all fun y => decide (y ∈ x.deps))))
def hunksB (id : Int) : Int → BL → List Hk → Bool
  | _, _, [] => true
  | fr, last, h :: r => pathB h.path && (Sort.ltStr last h.path && (hunkB id fr h && hunksB id (fr + h.adds.length) h.path r))
def isB (x : Pt) : Bool := decide (¬ x.id = 0) && (decide (x.hunks.length ≤ 6) && (pathsB x.makes && (pathsB x.drops && (depsB x && ((!x.makes.any fun s => decide (s ∈ x.drops)) && hunksB x.id 0 [] x.hunks)))))
def linesN (l : List Hk) : Nat := (l.map fun h => h.adds.length).sum
def pathsL (x : Pt) : List BL := uniqL Sort.ltStr (x.makes ++ x.drops ++ x.hunks.map (·.path))
section
variable {H : Hp} {id : Int} {dp mp qp hp : Option Addr} {dl dc ml mc ql qc hl hc : Nat} {x : Pt}
theorem patch_deps.c {K : Bool → Hp → Prop} (h : PtS H id dp dl dc mp ml mc qp ql qc hp hl hc x) (hs : PtSm x) (hK : ∀ H', Le H H' → K (depsB x) H') : patch_deps.C id dp dl dc mp ml mc qp ql qc hp hl hc H K := by
  apply patch_deps.of
  intro b hb
  have l1 := Le.upd (c := [.int .u32 id, .slice dp dl dc, .slice mp ml mc, .slice qp ql qc, .slice hp hl hc]) hb
  have d := D5.new (H := H) (b := b) (id := id) (dp := dp) (dl := dl) (dc := dc) (mp := mp) (ml := ml) (mc := mc) (qp := qp) (ql := ql) (qc := qc) (hp := hp) (hl := hl) (hc := hc)
  revert l1 d
  generalize upd H b [.int .u32 id, .slice dp dl dc, .slice mp ml mc, .slice qp ql qc, .slice hp hl hc] = H1
  intro l1 d
  obtain ⟨rfl, hd, hm, hq, hh⟩ := h
  have ed := hd.len
  have hsd := hs.deps
  unfold depsB at hK
  refine ldL_i d.2.1 (bcd (fun hh => ?_) fun h1 => ?_)
  · have := hK _ l1
    rw [decide_eq_false (by omega)] at this; exact this
  rw [decide_eq_true (by omega)] at hK
  simp only [Bool.true_and] at hK
  refine ldL_i d.2.1 (patch_rises_uint32.c (lt := Sort.ltInt) (hd.le l1) (by omega) (fun Hx a b G _ hk => ?_) fun H2 l2 => bcn (fun hr => ?_) fun hr => ?_)
  · show cmp_Compare_uint32.C a b Hx G
    exact cmp_Compare_uint32.c (hk Hx (Le.refl _))
  · rw [hr] at hK; exact hK _ (l1.trans l2)
  rw [hr] at hK
  simp only [Bool.true_and] at hK
  refine ldL_i (d.le l2).2.1 (slices_Contains_uint32_uint32.c (hd.le (l1.trans l2)) (by omega) (bcd (fun h0 => ?_) fun h0 => ?_))
  · have := hK _ (l1.trans l2)
    rw [decide_eq_true h0] at this; exact this
  rw [decide_eq_false h0] at hK
  simp only [Bool.not_false, Bool.true_and] at hK
  refine ldL_i (d.le l2).2.1 (ldI_i (d.le l2).1 (slices_Contains_uint32_uint32.c (hd.le (l1.trans l2)) (by omega) (bcd (fun h0 => ?_) fun h0 => ?_)))
  · have := hK _ (l1.trans l2)
    rw [decide_eq_true h0] at this; exact this
  rw [decide_eq_false h0] at hK
  simp only [Bool.not_false, Bool.true_and] at hK
  unfold patch_deps.k1
  have d2 := d.le l2
  refine ldI_i d2.1 (ldL_i d2.2.1 (ldL_i d2.2.2.1 (ldL_i d2.2.2.2.1 (ldL_i d2.2.2.2.2 ?_))))
  refine patch_Needs.c (PtS.up ⟨rfl, hd, hm, hq, hh⟩ (l1.trans l2)) hs fun p l c H3 l3 s3 hp hl => ?_
  refine slices_ContainsFunc_uint32_uint32.c (q := fun y => !decide (y ∈ x.deps)) s3 hl (fun Hy y _ G ly hk => ?_) fun H4 l4 => ?_
  · show patch_deps_1.C y b Hy G
    apply patch_deps_1.of
    exact ldL_i (((d2.le l3).le ly).2.1) (slices_Contains_uint32_uint32.c (hd.le (((l1.trans l2).trans l3).trans ly)) (by omega) (hk Hy (Le.refl _)))
  · have e : (!(needsL x).any fun y => !decide (y ∈ x.deps)) = (needsL x).all fun y => decide (y ∈ x.deps) := by rw [Bool.eq_iff_iff]; simp
    rw [e]
    exact hK _ (((l1.trans l2).trans l3).trans l4)
theorem patch_Is.c {K : Bool → Hp → Prop} (h : PtS H id dp dl dc mp ml mc qp ql qc hp hl hc x) (hs : PtSm x) (hK : ∀ H', Le H H' → K (isB x) H') : patch_Is.C id dp dl dc mp ml mc qp ql qc hp hl hc H K := by
  apply patch_Is.of
  intro b hb
  have l1 := Le.upd (c := [.int .u32 id, .slice dp dl dc, .slice mp ml mc, .slice qp ql qc, .slice hp hl hc]) hb
  have d := D5.new (H := H) (b := b) (id := id) (dp := dp) (dl := dl) (dc := dc) (mp := mp) (ml := ml) (mc := mc) (qp := qp) (ql := ql) (qc := qc) (hp := hp) (hl := hl) (hc := hc)
  revert l1 d
  generalize upd H b [.int .u32 id, .slice dp dl dc, .slice mp ml mc, .slice qp ql qc, .slice hp hl hc] = H1
  intro l1 d
  obtain ⟨rfl, hd, hm, hq, hh⟩ := h
  have eh := hh.1
  have hsh := hs.hunks
  have em := hm.len
  have hsm := hs.makes
  have eq := hq.len
  have hsq := hs.drops
  unfold isB at hK
  refine ldI_i d.1 (bcd (fun h0 => ?_) fun h0 => ?_)
  · have := hK _ l1
    rw [decide_eq_false (fun h => h h0)] at this; exact this
  rw [decide_eq_true h0] at hK
  simp only [Bool.true_and] at hK
  refine ldL_i d.2.2.2.2 (bcd (fun h6 => ?_) fun h6 => ?_)
  · have := hK _ l1
    rw [decide_eq_false (by omega)] at this; exact this
  rw [decide_eq_true (by omega)] at hK
  simp only [Bool.true_and] at hK
  refine ldL_i d.2.2.1 (patch_paths.c (hm.le l1) (by omega) (fun s hs' => Nat.le_trans (hs.mtext s hs') (by decide)) fun H2 l2 => bcn (fun hr => ?_) fun hr => ?_)
  · rw [hr] at hK; exact hK _ (l1.trans l2)
  rw [hr] at hK
  simp only [Bool.true_and] at hK
  refine ldL_i (d.le l2).2.2.2.1 (patch_paths.c (hq.le (l1.trans l2)) (by omega) (fun s hs' => Nat.le_trans (hs.dtext s hs') (by decide)) fun H3 l3 => bcn (fun hr => ?_) fun hr => ?_)
  · rw [hr] at hK; exact hK _ ((l1.trans l2).trans l3)
  rw [hr] at hK
  simp only [Bool.true_and] at hK
  have d3 := (d.le l2).le l3
  refine ldI_i d3.1 (ldL_i d3.2.1 (ldL_i d3.2.2.1 (ldL_i d3.2.2.2.1 (ldL_i d3.2.2.2.2 ?_))))
  refine patch_deps.c (PtS.up ⟨rfl, hd, hm, hq, hh⟩ ((l1.trans l2).trans l3)) hs fun H4 l4 => bcn (fun hr => ?_) fun hr => ?_
  · rw [hr] at hK; exact hK _ (((l1.trans l2).trans l3).trans l4)
  rw [hr] at hK
  simp only [Bool.true_and] at hK
  have d4 := d3.le l4
  have l14 := ((l1.trans l2).trans l3).trans l4
  unfold patch_Is.k1
  refine ldL_i d4.2.2.1 (slices_ContainsFunc_string_string.c (q := fun s => decide (s ∈ x.drops)) (hm.le l14) (by omega) (fun Hy s _ G ly hk => ?_) fun H5 l5 => bc_i (fun hr => ?_) fun hr => ?_)
  · show patch_Is_1.C (mkB s) b Hy G
    apply patch_Is_1.of
    exact ldL_i ((d4.le ly).2.2.2.1) (slices_Contains_string_string.c (hq.le (l14.trans ly)) (by omega) (hk Hy (Le.refl _)))
  · rw [hr] at hK; exact hK _ (l14.trans l5)
  rw [hr] at hK
  simp only [Bool.not_false, Bool.true_and] at hK
  have l15 := l14.trans l5
  have hh5 := HkH_le hh l15
  refine ldL_i (d4.le l5).2.2.2.2 ⟨fun fr last t Hx => ∃ (i : Nat) (s : BL), t = (i : Nat) ∧ i ≤ hl ∧ Le H5 Hx ∧ last = mkB s ∧ (0 ≤ fr ∧ fr ≤ i * 1000) ∧ hunksB x.id 0 [] x.hunks = hunksB x.id fr s (x.hunks.drop i), fun _ _ t _ => ((hl : Int) - t).toNat, ⟨0, [], rfl, Nat.zero_le _, Le.refl _, rfl, ⟨by decide, by decide⟩, rfl⟩, ?_⟩
  rintro fr last t Hx ⟨i, s, rfl, gi, lx, rfl, hfr, he⟩
  refine bcd (fun hlt => ?_) fun hlt => ?_
  · have hi : i < x.hunks.length := by omega
    have hsmi := hs.each _ (List.getElem_mem hi)
    rw [List.drop_eq_getElem_cons hi, hunksB] at he
    refine rsH2 hh5 lx rfl hi fun ap al ac ep el ec kp kl kc s1 s2 s3 => ?_
    refine D4.mk fun q H6 hq6 dq l6 => ldS_i dq.1 (patch_IsPath.c (Nat.le_trans hsmi.path (by decide)) (bc_i (fun hp => ?_) fun hp => ?_))
    · rw [hp] at he
      simp only [Bool.true_and] at he
      refine ldS_i dq.1 ?_
      rw [ltStr_gt]
      refine bc_i (fun hlast => ?_) fun hlast => ?_
      · rw [hlast] at he
        simp only [Bool.true_and] at he
        refine ldI_i (((d4.le l5).le lx).le l6).1 (ldS_i dq.1 (ldL_i dq.2.1 (ldL_i dq.2.2.1 (ldL_i dq.2.2.2 ?_))))
        have l56 := lx.trans l6
        refine patch_isHunk.c (s1.le l56) (s2.le l56) (s3.le l56) hsmi (by omega) fun H7 l7 => ?_
        unfold patch_Is.k2
        refine bc_i (fun hu => ?_) fun hu => ?_
        · rw [hu] at he
          simp only [Bool.true_and] at he
          have e1 := s1.len
          have e2 := hsmi.adds
          have dq7 := dq.le l7
          refine ldL_i dq7.2.1 (chk (by omega) (ldS_i dq7.1 (chk (by omega) ⟨⟨i + 1, x.hunks[i].path, by omega, by omega, l56.trans l7, rfl, by omega, ?_⟩, by first | omega | (dsimp only; omega)⟩)))
          rw [he, e1]
        · rw [hu] at he
          rw [he] at hK
          exact hK _ ((l15.trans l56).trans l7)
      · rw [hlast] at he
        rw [he] at hK
        unfold patch_Is.k2
        exact hK _ (l15.trans (lx.trans l6))
    · rw [hp] at he
      rw [he] at hK
      unfold patch_Is.k2
      exact hK _ (l15.trans (lx.trans l6))
  · rw [List.drop_eq_nil_of_le (by omega), hunksB] at he
    rw [he] at hK
    exact hK _ (l15.trans lx)
theorem linesN_snoc {l : List Hk} {i : Nat} (hi : i < l.length) : linesN (l.take (i + 1)) = linesN (l.take i) + l[i].adds.length := by unfold linesN; rw [map_snoc hi, List.sum_append]; simp
theorem linesN_le {l : List Hk} (h : ∀ y ∈ l, y.adds.length ≤ 1000) : linesN l ≤ l.length * 1000 := by
  induction l with
  | nil => simp [linesN]
  | cons y l ih =>
    have h1 := ih fun z hz => h z (List.mem_cons_of_mem _ hz)
    have h2 := h y (by simp)
    unfold linesN at h1 ⊢
    rw [List.map_cons, List.sum_cons, List.length_cons, Nat.add_mul]; omega
end
end Go.Proofs.YtbpbgkpkkklipaaGreat
namespace Go.Proofs.YtbpbgkpkkklipaaGreat
open Go.V
/-! ### Are they alike; what is cloned -/
section
variable {H : Hp} {K : Bool → Hp → Prop}
theorem patch_sameHunk.c {g h : Hk} {ap ep kp ap2 ep2 kp2 : Option Addr} {al ac el ec kl kc al2 ac2 el2 ec2 kl2 kc2 : Nat} (ha : Sl sv H ap al ac g.adds) (he : Sn 4 edC H ep el ec g.edges) (hk : Sn 2 lidC H kp kl kc g.kills)
    (ha2 : Sl sv H ap2 al2 ac2 h.adds) (he2 : Sn 4 edC H ep2 el2 ec2 h.edges) (hk2 : Sn 2 lidC H kp2 kl2 kc2 h.kills) (hsm : HkSm g) (hK : ∀ H', Le H H' → K (decide (g = h)) H') :
    patch_sameHunk.C (mkB g.path) ap al ac ep el ec kp kl kc (mkB h.path) ap2 al2 ac2 ep2 el2 ec2 kp2 kl2 kc2 H K := by
  apply patch_sameHunk.of
  have e1 := ha.len
  have e2 := he.len
  have e3 := hk.len
  have s1 := hsm.adds
  have s2 := hsm.edges
  have s3 := hsm.kills
  intro b hb b2 hb2
  have l1 := Le.upd (c := [.string (mkB g.path), .slice ap al ac, .slice ep el ec, .slice kp kl kc]) hb
  have l2 := Le.upd (c := [.string (mkB h.path), .slice ap2 al2 ac2, .slice ep2 el2 ec2, .slice kp2 kl2 kc2]) hb2
  have d1 := (D4.new (H := H) (b := b) (f := mkB g.path) (ap := ap) (al := al) (ac := ac) (ep := ep) (el := el) (ec := ec) (kp := kp) (kl := kl) (kc := kc)).le l2
  have d2 := D4.new (H := upd H b [.string (mkB g.path), .slice ap al ac, .slice ep el ec, .slice kp kl kc]) (b := b2) (f := mkB h.path) (ap := ap2) (al := al2) (ac := ac2) (ep := ep2) (el := el2) (ec := ec2) (kp := kp2) (kl := kl2) (kc := kc2)
  have l0 := l1.trans l2
  revert l0 d1 d2
  generalize upd (upd H b [.string (mkB g.path), .slice ap al ac, .slice ep el ec, .slice kp kl kc]) b2 [.string (mkB h.path), .slice ap2 al2 ac2, .slice ep2 el2 ec2, .slice kp2 kl2 kc2] = H2
  intro d1 d2 l0
  have hK := hK _ l0
  have no : (g = h → False) → K false H2 := fun hn => by rw [decide_eq_false hn] at hK; exact hK
  refine ldS_i d1.1 (ldS_i d2.1 (bcd (fun hp => ?_) fun hp => no fun e => hp (by rw [e])))
  refine ldL_i d1.2.1 (ldL_i d2.2.1 (slices_Equal_string_string.c (ha.le l0) (ha2.le l0) (by omega) (bcd (fun hq => ?_) fun hq => no fun e => hq (by rw [e]))))
  refine ldL_i d1.2.2.1 (ldL_i d2.2.2.1 (slices_Equal_api_Edge_api_Edge.c (he.le l0) (he2.le l0) (by omega) (bcd (fun hr => ?_) fun hr => no fun e => hr (by rw [e]))))
  refine ldL_i d1.2.2.2 (ldL_i d2.2.2.2 (slices_Equal_api_LineID_api_LineID.c (hk.le l0) (hk2.le l0) (by omega) ?_))
  have : decide (g.kills = h.kills) = decide (g = h) := decide_eq_decide.2 ⟨fun hs => by
    have := mkB_eq hp
    cases g; cases h; simp_all, fun e => by rw [e]⟩
  rw [this]; exact hK
theorem slices_EqualFunc_api_Hunk_api_Hunk_api_Hunk_api_Hunk.c {f : Value} {p q : Option Addr} {l c m d : Nat} {gs hs : List Hk} (h1 : HkH H p l c gs) (h2 : HkH H q m d hs) (hl : l ≤ 1000000000)
    (hf : ∀ Hx g h ap al ac ep el ec kp kl kc ap2 al2 ac2 ep2 el2 ec2 kp2 kl2 kc2 (G : Bool → Hp → Prop), g ∈ gs → Le H Hx → Sl sv Hx ap al ac g.adds → Sn 4 edC Hx ep el ec g.edges → Sn 2 lidC Hx kp kl kc g.kills → Sl sv Hx ap2 al2 ac2 h.adds → Sn 4 edC Hx ep2 el2 ec2 h.edges → Sn 2 lidC Hx kp2 kl2 kc2 h.kills → (∀ H', Le Hx H' → G (decide (g = h)) H') →
      CallV prog f [.agg ⟨[.string (mkB g.path), .slice ap al ac, .slice ep el ec, .slice kp kl kc]⟩, .agg ⟨[.string (mkB h.path), .slice ap2 al2 ac2, .slice ep2 el2 ec2, .slice kp2 kl2 kc2]⟩] Hx fun v H' => liftB v fun r => G r H')
    (hK : ∀ H', Le H H' → K (decide (gs = hs)) H') : slices_EqualFunc_api_Hunk_api_Hunk_api_Hunk_api_Hunk.C p l c q m d f H K := by
  apply slices_EqualFunc_api_Hunk_api_Hunk_api_Hunk_api_Hunk.of
  have e1 := h1.1
  have e2 := h2.1
  refine bcd (fun hn => ?_) fun hn => ?_
  · have := hK _ (Le.refl _)
    rw [decide_eq_false (fun e => hn (by rw [e1, e2, e]))] at this; exact this
  have hlen : gs.length = hs.length := by omega
  refine ⟨fun t Hx => ∃ i : Nat, t = (i : Nat) ∧ i ≤ l ∧ Le H Hx ∧ gs.take i = hs.take i, fun t _ => ((l : Int) - t).toNat, ⟨0, rfl, Nat.zero_le _, Le.refl _, rfl⟩, ?_⟩
  rintro t Hx ⟨i, rfl, gi, lx, he⟩
  refine bcd (fun hlt => ?_) fun hlt => ?_
  · have hi : i < gs.length := by omega
    have hi2 : i < hs.length := by omega
    refine rsH2 h1 lx rfl hi fun ap al ac ep el ec kp kl kc s1 s2 s3 => D4.mk fun b H2 hb d l2 => ?_
    refine rsH2 h2 (lx.trans l2) rfl hi2 fun ap2 al2 ac2 ep2 el2 ec2 kp2 kl2 kc2 t1 t2 t3 => D4.mk fun b2 H3 hb2 d2 l3 => ?_
    have d := d.le l3
    have l03 := (lx.trans l2).trans l3
    refine ldS_i d.1 (ldL_i d.2.1 (ldL_i d.2.2.1 (ldL_i d.2.2.2 (ldS_i d2.1 (ldL_i d2.2.1 (ldL_i d2.2.2.1 (ldL_i d2.2.2.2 ?_)))))))
    refine hf H3 gs[i] hs[i] _ _ _ _ _ _ _ _ _ _ _ _ _ _ _ _ _ _ _ (List.getElem_mem hi) l03 (s1.le l03) (s2.le l03) (s3.le l03) (t1.le l03) (t2.le l03) (t3.le l03) fun H4 l4 => bcn (fun hb => ?_) fun hb => ?_
    · have := hK _ (l03.trans l4)
      have hne : ¬ gs = hs := fun e => by
        subst e; simp at hb
      rw [decide_eq_false hne] at this; exact this
    · refine chk (by omega) ⟨⟨i + 1, by omega, by omega, l03.trans l4, ?_⟩, by first | omega | (dsimp only; omega)⟩
      rw [List.take_succ_eq_append_getElem hi, List.take_succ_eq_append_getElem hi2, he, of_decide_eq_true hb]
  · rw [List.take_of_length_le (by omega), List.take_of_length_le (by omega)] at he
    have := hK _ lx
    rw [decide_eq_true he] at this; exact this
theorem patch_Same.c {x y : Pt} {id id2 : Int} {dp mp qp hp dp2 mp2 qp2 hp2 : Option Addr} {dl dc ml mc ql qc hl hc dl2 dc2 ml2 mc2 ql2 qc2 hl2 hc2 : Nat} (h : PtS H id dp dl dc mp ml mc qp ql qc hp hl hc x) (h2 : PtS H id2 dp2 dl2 dc2 mp2 ml2 mc2 qp2 ql2 qc2 hp2 hl2 hc2 y) (hs : PtSm x) (hK : ∀ H', Le H H' → K (decide (x = y)) H') :
    patch_Same.C id dp dl dc mp ml mc qp ql qc hp hl hc id2 dp2 dl2 dc2 mp2 ml2 mc2 qp2 ql2 qc2 hp2 hl2 hc2 H K := by
  apply patch_Same.of
  intro b hb b2 hb2
  have l1 := Le.upd (c := [.int .u32 id, .slice dp dl dc, .slice mp ml mc, .slice qp ql qc, .slice hp hl hc]) hb
  have l2 := Le.upd (c := [.int .u32 id2, .slice dp2 dl2 dc2, .slice mp2 ml2 mc2, .slice qp2 ql2 qc2, .slice hp2 hl2 hc2]) hb2
  have d1 := (D5.new (H := H) (b := b) (id := id) (dp := dp) (dl := dl) (dc := dc) (mp := mp) (ml := ml) (mc := mc) (qp := qp) (ql := ql) (qc := qc) (hp := hp) (hl := hl) (hc := hc)).le l2
  have d2 := D5.new (H := upd H b [.int .u32 id, .slice dp dl dc, .slice mp ml mc, .slice qp ql qc, .slice hp hl hc]) (b := b2) (id := id2) (dp := dp2) (dl := dl2) (dc := dc2) (mp := mp2) (ml := ml2) (mc := mc2) (qp := qp2) (ql := ql2) (qc := qc2) (hp := hp2) (hl := hl2) (hc := hc2)
  have l0 := l1.trans l2
  revert l0 d1 d2
  generalize upd (upd H b [.int .u32 id, .slice dp dl dc, .slice mp ml mc, .slice qp ql qc, .slice hp hl hc]) b2 [.int .u32 id2, .slice dp2 dl2 dc2, .slice mp2 ml2 mc2, .slice qp2 ql2 qc2, .slice hp2 hl2 hc2] = H2
  intro d1 d2 l0
  obtain ⟨rfl, hd, hm, hq, hh⟩ := h
  obtain ⟨rfl, hd2, hm2, hq2, hh2⟩ := h2
  have e1 := hd.len
  have e2 := hm.len
  have e3 := hq.len
  have e4 := hh.1
  have s1 := hs.deps
  have s2 := hs.makes
  have s3 := hs.drops
  have s4 := hs.hunks
  have no : (x = y → False) → K false H2 := fun hn => by have := hK _ l0; rw [decide_eq_false hn] at this; exact this
  refine ldI_i d1.1 (ldI_i d2.1 (bcd (fun j0 => ?_) fun j0 => no fun e => j0 (by rw [e])))
  refine ldL_i d1.2.1 (ldL_i d2.2.1 (slices_Equal_uint32_uint32.c (hd.le l0) (hd2.le l0) (by omega) (bcd (fun j1 => ?_) fun j1 => no fun e => j1 (by rw [e]))))
  refine ldL_i d1.2.2.1 (ldL_i d2.2.2.1 (slices_Equal_string_string.c (hm.le l0) (hm2.le l0) (by omega) (bcd (fun j2 => ?_) fun j2 => no fun e => j2 (by rw [e]))))
  refine ldL_i d1.2.2.2.1 (ldL_i d2.2.2.2.1 (slices_Equal_string_string.c (hq.le l0) (hq2.le l0) (by omega) (bcd (fun j3 => ?_) fun j3 => no fun e => j3 (by rw [e]))))
  refine ldL_i d1.2.2.2.2 (ldL_i d2.2.2.2.2 (slices_EqualFunc_api_Hunk_api_Hunk_api_Hunk_api_Hunk.c (HkH_le hh l0) (HkH_le hh2 l0) (by omega) ?_ fun H3 l3 => ?_))
  · intro Hx g h ap al ac ep el ec kp kl kc ap2 al2 ac2 ep2 el2 ec2 kp2 kl2 kc2 G hg lx a1 a2 a3 b1 b2 b3 hG
    show patch_sameHunk.C (mkB g.path) ap al ac ep el ec kp kl kc (mkB h.path) ap2 al2 ac2 ep2 el2 ec2 kp2 kl2 kc2 Hx G
    exact patch_sameHunk.c a1 a2 a3 b1 b2 b3 (hs.each g hg) hG
  · have : decide (x.hunks = y.hunks) = decide (x = y) := decide_eq_decide.2 ⟨fun h => by cases x; cases y; simp_all, fun e => by rw [e]⟩
    rw [this]; exact hK _ (l0.trans l3)
end
section
variable {H : Hp} {K : Option Addr → Nat → Nat → Hp → Prop} {p : Option Addr} {l cc : Nat}
theorem slices_Clone_uint32_uint32.c {xs : List Int} (h : Sl fU H p l cc xs) (hl : l ≤ 1000000) (hK : ∀ p' c' H', Le H H' → Buf 1 H H' p' l c' (xs.map fU) → K p' l c' H') : slices_Clone_uint32_uint32.C p l cc H K := by
  apply slices_Clone_uint32_uint32.of
  have e := h.len
  refine bcd (fun hn => ?_) fun hn b hb => ?_
  · have h0 := h.nil0 hn
    have : xs = [] := List.length_eq_zero_iff.1 (by omega)
    subst this; rw [h0] at hK; exact hK _ _ _ (Le.refl _) Buf.none
  · have hB : Buf 1 H (upd H b []) (some ⟨b, 0, none⟩) 0 0 [] := Buf.empty hb (by unfold upd; rw [if_pos rfl])
    refine hB.appN (n := l) (new := xs.map fU) rfl (by decide) rfl (by decide) (by simp; omega) (by simp [isCell]) (by simp [te_uint32]; omega) (Le.upd hb) (fun G hG => sl_src (h.le (Le.upd hb)) G hG) (fun p' c' H' hB' l' _ => ?_)
    rw [Nat.zero_add] at hB' ⊢; exact hK _ _ _ l' hB'
theorem slices_Clone_string_string.c {xs : List BL} (h : Sl sv H p l cc xs) (hl : l ≤ 1000000) (hK : ∀ p' c' H', Le H H' → Buf 1 H H' p' l c' (xs.map sv) → K p' l c' H') : slices_Clone_string_string.C p l cc H K := by
  apply slices_Clone_string_string.of
  have e := h.len
  refine bcd (fun hn => ?_) fun hn b hb => ?_
  · have h0 := h.nil0 hn
    have : xs = [] := List.length_eq_zero_iff.1 (by omega)
    subst this; rw [h0] at hK; exact hK _ _ _ (Le.refl _) Buf.none
  · have hB : Buf 1 H (upd H b []) (some ⟨b, 0, none⟩) 0 0 [] := Buf.empty hb (by unfold upd; rw [if_pos rfl])
    refine hB.appN (n := l) (new := xs.map sv) rfl (by decide) rfl (by decide) (by simp; omega) (by simp [sv, isCell]) (by simp [te_string]; omega) (Le.upd hb) (fun G hG => sl_src (h.le (Le.upd hb)) G hG) (fun p' c' H' hB' l' _ => ?_)
    rw [Nat.zero_add] at hB' ⊢; exact hK _ _ _ l' hB'
theorem slices_Clone_api_Edge_api_Edge.c {xs : List Ed} (h : Sn 4 edC H p l cc xs) (hl : l ≤ 1000000) (hK : ∀ p' c' H', Le H H' → Buf 4 H H' p' l c' (xs.flatMap edC) → K p' l c' H') : slices_Clone_api_Edge_api_Edge.C p l cc H K := by
  apply slices_Clone_api_Edge_api_Edge.of
  have e := h.len
  refine bcd (fun hn => ?_) fun hn b hb => ?_
  · have h0 := h.nil0 hn
    have : xs = [] := List.length_eq_zero_iff.1 (by omega)
    subst this; rw [h0] at hK; exact hK _ _ _ (Le.refl _) Buf.none
  · have hB : Buf 4 H (upd H b []) (some ⟨b, 0, none⟩) 0 0 [] := Buf.empty hb (by unfold upd; rw [if_pos rfl])
    refine hB.appN (n := l) (new := xs.flatMap edC) rfl (by decide) rfl (by decide) (by rw [flatMap_len edC_len]; omega) (by simp [edC, isCell]) (by simp [te_api_Edge]; omega) (Le.upd hb) (fun G hG => sn_src (by decide) edC_len (h.le (Le.upd hb)) G hG) (fun p' c' H' hB' l' _ => ?_)
    rw [Nat.zero_add] at hB' ⊢; exact hK _ _ _ l' hB'
theorem slices_Clone_api_LineID_api_LineID.c {xs : List Lid} (h : Sn 2 lidC H p l cc xs) (hl : l ≤ 1000000) (hK : ∀ p' c' H', Le H H' → Buf 2 H H' p' l c' (xs.flatMap lidC) → K p' l c' H') : slices_Clone_api_LineID_api_LineID.C p l cc H K := by
  apply slices_Clone_api_LineID_api_LineID.of
  have e := h.len
  refine bcd (fun hn => ?_) fun hn b hb => ?_
  · have h0 := h.nil0 hn
    have : xs = [] := List.length_eq_zero_iff.1 (by omega)
    subst this; rw [h0] at hK; exact hK _ _ _ (Le.refl _) Buf.none
  · have hB : Buf 2 H (upd H b []) (some ⟨b, 0, none⟩) 0 0 [] := Buf.empty hb (by unfold upd; rw [if_pos rfl])
    refine hB.appN (n := l) (new := xs.flatMap lidC) rfl (by decide) rfl (by decide) (by rw [flatMap_len lidC_len]; omega) (by simp [lidC, isCell]) (by simp [te_api_LineID]; omega) (Le.upd hb) (fun G hG => sn_src (by decide) lidC_len (h.le (Le.upd hb)) G hG) (fun p' c' H' hB' l' _ => ?_)
    rw [Nat.zero_add] at hB' ⊢; exact hK _ _ _ l' hB'
/-- Where a hunk's rows lie. -/
structure HD where
  ap : Option Addr
  al : Nat
  ac : Nat
  ep : Option Addr
  el : Nat
  ec : Nat
  kp : Option Addr
  kl : Nat
  kc : Nat
def hdC (x : BL × HD) : List Value := [sv x.1, .slice x.2.ap x.2.al x.2.ac, .slice x.2.ep x.2.el x.2.ec, .slice x.2.kp x.2.kl x.2.kc]
theorem hdC_len (x : BL × HD) : (hdC x).length = 4 := rfl
theorem slices_Clone_api_Hunk_api_Hunk.c {xs : List (BL × HD)} (h : Sn 4 hdC H p l cc xs) (hl : l ≤ 1000000) (hK : ∀ p' c' H', Le H H' → Buf 4 H H' p' l c' (xs.flatMap hdC) → K p' l c' H') : slices_Clone_api_Hunk_api_Hunk.C p l cc H K := by
  apply slices_Clone_api_Hunk_api_Hunk.of
  have e := h.len
  refine bcd (fun hn => ?_) fun hn b hb => ?_
  · have h0 := h.nil0 hn
    have : xs = [] := List.length_eq_zero_iff.1 (by omega)
    subst this; rw [h0] at hK; exact hK _ _ _ (Le.refl _) Buf.none
  · have hB : Buf 4 H (upd H b []) (some ⟨b, 0, none⟩) 0 0 [] := Buf.empty hb (by unfold upd; rw [if_pos rfl])
    refine hB.appN (n := l) (new := xs.flatMap hdC) rfl (by decide) rfl (by decide) (by rw [flatMap_len hdC_len]; omega) (by simp [hdC, isCell, sv]) (by simp [te_api_Hunk]; omega) (Le.upd hb) (fun G hG => sn_src (by decide) hdC_len (h.le (Le.upd hb)) G hG) (fun p' c' H' hB' l' _ => ?_)
    rw [Nat.zero_add] at hB' ⊢; exact hK _ _ _ l' hB'
end
end Go.Proofs.YtbpbgkpkkklipaaGreat
namespace Go.Proofs.YtbpbgkpkkklipaaGreat
open Go.V
/-! ### A copy -/
def hdP (x : BL × HD) : List (Option Addr) := [x.2.ap, x.2.ep, x.2.kp]
def OwnH (A H : Hp) (h : Hk) (d : HD) : Prop := Buf 1 A H d.ap d.al d.ac (h.adds.map sv) ∧ Buf 4 A H d.ep d.el d.ec (h.edges.flatMap edC) ∧ Buf 2 A H d.kp d.kl d.kc (h.kills.flatMap lidC)
def RdH (H : Hp) (h : Hk) (d : HD) : Prop := Sl sv H d.ap d.al d.ac h.adds ∧ Sn 4 edC H d.ep d.el d.ec h.edges ∧ Sn 2 lidC H d.kp d.kl d.kc h.kills
def There (H : Hp) (p : Option Addr) : Prop := ∀ b o, p = some ⟨b, o, none⟩ → H b ≠ none
def Ok (H : Hp) (L : List (Option Addr)) : Prop := L.Pairwise Apart ∧ ∀ q ∈ L, There H q
def OwnR (A H : Hp) (hp : Option Addr) (hl hc : Nat) (hs : List Hk) (zs : List (BL × HD)) : Prop := zs.length = hs.length ∧ Buf 4 A H hp hl hc (zs.flatMap hdC) ∧ ∀ j (h1 : j < hs.length) (h2 : j < zs.length), zs[j].1 = hs[j].path ∧ OwnH A H hs[j] zs[j].2
/-- A patch in memory of its own. -/
def Own (A H : Hp) (id : Int) (dp : Option Addr) (dl dc : Nat) (mp : Option Addr) (ml mc : Nat) (qp : Option Addr) (ql qc : Nat) (hp : Option Addr) (hl hc : Nat) (x : Pt) (zs : List (BL × HD)) : Prop :=
  id = x.id ∧ Buf 1 A H dp dl dc (x.deps.map fU) ∧ Buf 1 A H mp ml mc (x.makes.map sv) ∧ Buf 1 A H qp ql qc (x.drops.map sv) ∧ OwnR A H hp hl hc x.hunks zs ∧ (dp :: mp :: qp :: hp :: zs.flatMap hdP).Pairwise Apart
section
variable {A A' H H' : Hp} {p : Option Addr} {l cc : Nat} {O : List Nat}
theorem apThere {q : Option Addr} (h : There H p) (hn : New H q) : Apart p q := fun b o o' e e' => h b o e (hn b o' e')
theorem bThere {s : Nat} {cells : List Value} (h : Buf s A H p l cc cells) : There H p := fun _ _ e => h.there e
theorem There.was (h : There H p) (hw : Was H H') : There H' p := fun b o e hn => h b o e (hw b hn)
theorem Ok.was {L : List (Option Addr)} (h : Ok H L) (hw : Was H H') : Ok H' L := ⟨h.1, fun q hq => (h.2 q hq).was hw⟩
theorem Ok.snoc {L : List (Option Addr)} (h : Ok H L) (hn : New H p) (ht : There H' p) (hl : Le H H') : Ok H' (L ++ [p]) := by
  refine ⟨List.pairwise_append.2 ⟨h.1, by simp, fun a ha b hb => ?_⟩, fun q hq => ?_⟩
  · simp at hb; subst hb; exact apThere (h.2 a ha) hn
  · rcases List.mem_append.1 hq with hq | hq
    · exact (h.2 q hq).was hl.was
    · simp at hq; subst hq; exact ht
theorem bModA {s : Nat} {cells : List Value} {b : Nat} (h : Buf s A H p l cc cells) (hm : Mod [b] H H') (ha : Apart (some ⟨b, 0, none⟩) p) : Buf s A H' p l cc cells := h.mod hm fun b' o e hb => by
  simp at hb; subst hb; exact ha _ _ _ rfl e
theorem OwnH.le {h : Hk} {d : HD} (x : OwnH A H h d) (hl : Le H H') : OwnH A H' h d := ⟨x.1.le hl, x.2.1.le hl, x.2.2.le hl⟩
theorem OwnH.mod {h : Hk} {z : BL × HD} {b : Nat} (x : OwnH A H h z.2) (hm : Mod [b] H H') (ha : ∀ q ∈ hdP z, Apart (some ⟨b, 0, none⟩) q) : OwnH A H' h z.2 :=
  ⟨bModA x.1 hm (ha _ (by simp [hdP])), bModA x.2.1 hm (ha _ (by simp [hdP])), bModA x.2.2 hm (ha _ (by simp [hdP]))⟩
theorem OwnH.back {h : Hk} {d : HD} (x : OwnH A' H h d) (hl : Le A A') : OwnH A H h d := ⟨bBack x.1 hl, bBack x.2.1 hl, bBack x.2.2 hl⟩
theorem OwnH.rdH {h : Hk} {d : HD} (x : OwnH A H h d) : RdH H h d := ⟨x.1.sl, x.2.1.sn edC_len (by decide), x.2.2.sn lidC_len (by decide)⟩
theorem HkH.rows {hs : List Hk} (h : HkH H p l cc hs) : ∃ zs : List (BL × HD), zs.length = hs.length ∧ Sn 4 hdC H p l cc zs ∧ ∀ j (h1 : j < hs.length) (h2 : j < zs.length), zs[j].1 = hs[j].path ∧ RdH H hs[j] zs[j].2 := by
  obtain ⟨e, hc, h0 | ⟨b, o, rfl, hh⟩⟩ := h
  · subst h0; exact ⟨[], rfl, ⟨e, hc, .inl rfl⟩, fun j h1 => by simp at h1⟩
  · have hh' : ∀ i : Fin hs.length, ∃ d : HD, (∀ j v, (hdC (hs[i].path, d))[j]? = some v → rd H b (o + i * 4 + j) = some v) ∧ RdH H hs[i] d := fun i => by
      obtain ⟨ap, al, ac, ep, el, ec, kp, kl, kc, h1, h2, h3, h4, h5, h6, h7⟩ := hh i i.2
      refine ⟨⟨ap, al, ac, ep, el, ec, kp, kl, kc⟩, fun j v hv => ?_, h5, h6, h7⟩
      match j, hv with
      | 0, hv => simp [hdC] at hv; subst hv; exact h1
      | 1, hv => simp [hdC] at hv; subst hv; exact h2
      | 2, hv => simp [hdC] at hv; subst hv; exact h3
      | 3, hv => simp [hdC] at hv; subst hv; exact h4
      | j + 4, hv => simp [hdC] at hv
    obtain ⟨f, hf⟩ := Classical.skolem.1 hh'
    refine ⟨List.ofFn fun i : Fin hs.length => (hs[i].path, f i), by simp, ⟨by simp; exact e, hc, .inr ⟨b, o, rfl, fun i hi j v hv => ?_⟩⟩, fun j h1 h2 => ?_⟩
    · have hi' : i < hs.length := by simpa using hi
      rw [List.getElem_ofFn] at hv
      exact (hf ⟨i, hi'⟩).1 j v hv
    · rw [List.getElem_ofFn]
      exact ⟨rfl, (hf ⟨j, h1⟩).2⟩
theorem HkH.of {hs : List Hk} {zs : List (BL × HD)} (hz : zs.length = hs.length) (h : Sn 4 hdC H p l cc zs) (hh : ∀ j (h1 : j < hs.length) (h2 : j < zs.length), zs[j].1 = hs[j].path ∧ RdH H hs[j] zs[j].2) : HkH H p l cc hs := by
  obtain ⟨e, hc, h0 | ⟨b, o, rfl, hr⟩⟩ := h
  · subst h0
    have : hs = [] := List.length_eq_zero_iff.1 (by rw [← hz]; rfl)
    subst this
    exact ⟨e, hc, .inl rfl⟩
  · refine ⟨by omega, hc, .inr ⟨b, o, rfl, fun i hi => ?_⟩⟩
    obtain ⟨e1, e2, e3, e4⟩ := hh i hi (by omega)
    have r := hr i (by omega)
    exact ⟨_, _, _, _, _, _, _, _, _, by rw [← e1]; exact r 0 _ rfl, r 1 _ rfl, r 2 _ rfl, r 3 _ rfl, e2, e3, e4⟩
theorem OwnR.hkH {hs : List Hk} {zs : List (BL × HD)} (h : OwnR A H p l cc hs zs) : HkH H p l cc hs := HkH.of h.1 (h.2.1.sn hdC_len (by decide)) fun j h1 h2 => ⟨(h.2.2 j h1 h2).1, (h.2.2 j h1 h2).2.rdH⟩
theorem Own.pt {id : Int} {dp mp qp hp : Option Addr} {dl dc ml mc ql qc hl hc : Nat} {x : Pt} {zs : List (BL × HD)} (h : Own A H id dp dl dc mp ml mc qp ql qc hp hl hc x zs) : PtS H id dp dl dc mp ml mc qp ql qc hp hl hc x := ⟨h.1, h.2.1.sl, h.2.2.1.sl, h.2.2.2.1.sl, h.2.2.2.2.1.hkH⟩
theorem rsD {zs : List (BL × HD)} (h : Sn 4 hdC H p l cc zs) {k : Nat} {e : Int} (he : e = (k : Int)) (hk : k < zs.length) {F : ByteArray → Option Addr → Nat → Nat → Option Addr → Nat → Nat → Option Addr → Nat → Nat → Prop}
    (hF : F (mkB zs[k].1) zs[k].2.ap zs[k].2.al zs[k].2.ac zs[k].2.ep zs[k].2.el zs[k].2.ec zs[k].2.kp zs[k].2.kl zs[k].2.kc) :
    IDX e l fun k => NIL p fun b o => ldS (rd H b (o + (k * 4))) fun x => ldL (rd H b ((o + (k * 4)) + 1)) fun ap al ac => ldL (rd H b (((o + (k * 4)) + 1) + 1)) fun ep el ec => ldL (rd H b ((((o + (k * 4)) + 1) + 1) + 1)) fun kp kl kc => F x ap al ac ep el ec kp kl kc := by
  have hl := h.len
  obtain ⟨b, o, rfl, hh⟩ := h.at hk
  exact idxN k he (by omega) (nil (ldS_i (hh k hk 0 _ rfl) (ldL_i (hh k hk 1 _ rfl) (ldL_i (hh k hk 2 _ rfl) (ldL_i (hh k hk 3 _ rfl) hF)))))
theorem hd_set : ∀ (zs : List (BL × HD)) (i : Nat) (h : i < zs.length) (d : HD), (((zs.flatMap hdC).set (i * 4 + 1) (.slice d.ap d.al d.ac)).set (i * 4 + 2) (.slice d.ep d.el d.ec)).set (i * 4 + 3) (.slice d.kp d.kl d.kc) = (zs.set i (zs[i].1, d)).flatMap hdC
  | z :: zs, 0, _, d => by simp [hdC]
  | z :: zs, i + 1, h, d => by
    have e : ∀ k, (i + 1) * 4 + k = (hdC z).length + (i * 4 + k) := fun k => by rw [hdC_len]; omega
    rw [List.flatMap_cons, e, e, e]
    simp only [List.set_append_right _ _ (Nat.le_add_right _ _), Nat.add_sub_cancel_left]
    rw [hd_set zs i (by simpa using h) d]
    rfl
theorem take_set {α : Type} {ys : List α} {i : Nat} {v : α} (h : i < ys.length) : (ys.set i v).take (i + 1) = ys.take i ++ [v] := by
  rw [List.take_succ_eq_append_getElem (by simpa using h), List.getElem_set_self, List.take_set_of_le (Nat.le_refl _)]
theorem was_wr {b o : Nat} {v : Value} : Was H (wr H b o v) := fun q h => by
  unfold wr at h
  split at h
  · subst_vars; cases e : H q with
    | none => rfl
    | some c => rw [e] at h; cases h
  · exact h
theorem put4 {b : Nat} {id : Int} {dp mp qp hp : Option Addr} {dl dc ml mc ql qc hl hc : Nat} (h : D5 H b id dp dl dc mp ml mc qp ql qc hp hl hc) {dp' mp' qp' hp' : Option Addr} {dl' dc' ml' mc' ql' qc' hl' hc' : Nat} {F : Hp → Prop}
    (hF : ∀ H', D5 H' b id dp' dl' dc' mp' ml' mc' qp' ql' qc' hp' hl' hc' → Mod [b] H H' → Was H H' → F H') :
    ST H b 1 (.slice dp' dl' dc') fun H1 => ST H1 b 2 (.slice mp' ml' mc') fun H2 => ST H2 b 3 (.slice qp' ql' qc') fun H3 => ST H3 b 4 (.slice hp' hl' hc') F := by
  have r1 := h.2.1
  have r2 : rd (wr H b 1 (.slice dp' dl' dc')) b 2 = some (.slice mp ml mc) := by rw [rd_wr_off (by decide)]; exact h.2.2.1
  have r3 : rd (wr (wr H b 1 (.slice dp' dl' dc')) b 2 (.slice mp' ml' mc')) b 3 = some (.slice qp ql qc) := by rw [rd_wr_off (by decide), rd_wr_off (by decide)]; exact h.2.2.2.1
  have r4 : rd (wr (wr (wr H b 1 (.slice dp' dl' dc')) b 2 (.slice mp' ml' mc')) b 3 (.slice qp' ql' qc')) b 4 = some (.slice hp hl hc) := by rw [rd_wr_off (by decide), rd_wr_off (by decide), rd_wr_off (by decide)]; exact h.2.2.2.2
  refine st r1 (st r2 (st r3 (st r4 (hF _ ⟨?_, ?_, ?_, ?_, ?_⟩ ((((Mod.refl.wr (.inl (by simp))).wr (.inl (by simp))).wr (.inl (by simp))).wr (.inl (by simp))) (((was_wr.trans was_wr).trans was_wr).trans was_wr)))))
  · rw [rd_wr_off (by decide), rd_wr_off (by decide), rd_wr_off (by decide), rd_wr_off (by decide)]; exact h.1
  · rw [rd_wr_off (by decide), rd_wr_off (by decide), rd_wr_off (by decide)]; exact rd_wr_self r1
  · rw [rd_wr_off (by decide), rd_wr_off (by decide)]; exact rd_wr_self r2
  · rw [rd_wr_off (by decide)]; exact rd_wr_self r3
  · exact rd_wr_self r4
theorem put5 {b : Nat} {id id' : Int} {dp mp qp hp : Option Addr} {dl dc ml mc ql qc hl hc : Nat} (h : D5 H b id dp dl dc mp ml mc qp ql qc hp hl hc) {dp' mp' qp' hp' : Option Addr} {dl' dc' ml' mc' ql' qc' hl' hc' : Nat} {F : Hp → Prop}
    (hF : ∀ H', D5 H' b id' dp' dl' dc' mp' ml' mc' qp' ql' qc' hp' hl' hc' → Mod [b] H H' → Was H H' → F H') :
    ST H b 0 (.int .u32 id') fun H0 => ST H0 b 1 (.slice dp' dl' dc') fun H1 => ST H1 b 2 (.slice mp' ml' mc') fun H2 => ST H2 b 3 (.slice qp' ql' qc') fun H3 => ST H3 b 4 (.slice hp' hl' hc') F := by
  refine st h.1 (put4 (id := id') (dp := dp) (dl := dl) (dc := dc) (mp := mp) (ml := ml) (mc := mc) (qp := qp) (ql := ql) (qc := qc) (hp := hp) (hl := hl) (hc := hc) ⟨rd_wr_self h.1, ?_, ?_, ?_, ?_⟩ fun H' d m w => hF H' d (Mod.trans (Mod.refl.wr (.inl (by simp))) m) (was_wr.trans w))
  · rw [rd_wr_off (by decide)]; exact h.2.1
  · rw [rd_wr_off (by decide)]; exact h.2.2.1
  · rw [rd_wr_off (by decide)]; exact h.2.2.2.1
  · rw [rd_wr_off (by decide)]; exact h.2.2.2.2
end
end Go.Proofs.YtbpbgkpkkklipaaGreat
namespace Go.Proofs.YtbpbgkpkkklipaaGreat
open Go.V
section
variable {H : Hp} {id : Int} {dp mp qp hp : Option Addr} {dl dc ml mc ql qc hl hc : Nat} {x : Pt}
theorem patch_Copy.c {K : Int → Option Addr → Nat → Nat → Option Addr → Nat → Nat → Option Addr → Nat → Nat → Option Addr → Nat → Nat → Hp → Prop} (h : PtS H id dp dl dc mp ml mc qp ql qc hp hl hc x) (hs : PtSm x)
    (hK : ∀ p1 c1 p2 c2 p3 c3 p4 c4 zs H', Le H H' → Own H H' x.id p1 dl c1 p2 ml c2 p3 ql c3 p4 hl c4 x zs → K x.id p1 dl c1 p2 ml c2 p3 ql c3 p4 hl c4 H') : patch_Copy.C id dp dl dc mp ml mc qp ql qc hp hl hc H K := by
  apply patch_Copy.of
  intro b hb
  have l1 := Le.upd (c := [.int .u32 id, .slice dp dl dc, .slice mp ml mc, .slice qp ql qc, .slice hp hl hc]) hb
  have d := D5.new (H := H) (b := b) (id := id) (dp := dp) (dl := dl) (dc := dc) (mp := mp) (ml := ml) (mc := mc) (qp := qp) (ql := ql) (qc := qc) (hp := hp) (hl := hl) (hc := hc)
  revert l1 d
  generalize upd H b [.int .u32 id, .slice dp dl dc, .slice mp ml mc, .slice qp ql qc, .slice hp hl hc] = H1
  intro l1 d
  have d0 := d
  obtain ⟨rfl, hd, hm, hq, hh⟩ := h
  intro b2 hb2
  have l2 := Le.upd (c := [.int .u32 (0 : Int), .slice none 0 0, .slice none 0 0, .slice none 0 0, .slice none 0 0]) hb2
  have e2 := D5.new (H := H1) (b := b2) (id := (0 : Int)) (dp := none) (dl := 0) (dc := 0) (mp := none) (ml := 0) (mc := 0) (qp := none) (ql := 0) (qc := 0) (hp := none) (hl := 0) (hc := 0)
  revert l2 e2
  generalize upd H1 b2 [.int .u32 (0 : Int), .slice none 0 0, .slice none 0 0, .slice none 0 0, .slice none 0 0] = H2
  intro l2 e2
  have d := d.le l2
  have l02 := l1.trans l2
  have sd := hs.deps
  have sm := hs.makes
  have sq := hs.drops
  have sh := hs.hunks
  have ed := hd.len
  have em := hm.len
  have eq := hq.len
  have eh := hh.1
  have ok2 : Ok H2 [some ⟨b, 0, none⟩, some ⟨b2, 0, none⟩] := by
    refine ⟨?_, fun q hq' b' o e => ?_⟩
    · refine List.pairwise_cons.2 ⟨fun a ha => ?_, by simp⟩
      simp at ha; subst ha
      intro b' o o' f g
      simp only [Option.some.injEq, Addr.mk.injEq] at f g
      obtain ⟨rfl, _⟩ := f
      obtain ⟨rfl, _⟩ := g
      exact d.there (by have := none_of_le (Le.refl H1) hb2; exact absurd this (ne_none_of_rd (d0.1)))
    · simp at hq'
      rcases hq' with rfl | rfl
      · simp only [Option.some.injEq, Addr.mk.injEq] at e; obtain ⟨rfl, _⟩ := e; exact d.there
      · simp only [Option.some.injEq, Addr.mk.injEq] at e; obtain ⟨rfl, _⟩ := e; exact e2.there
  refine ldL_i d.2.1 (ldL_i d.2.2.1 (ldL_i d.2.2.2.1 (ldL_i d.2.2.2.2 ?_)))
  refine slices_Clone_uint32_uint32.c (hd.le l02) (by omega) fun p1 c1 H3 l3 B1 => ⟨(d.le l3).2.2.2.2, (d.le l3).2.2.2.1, (d.le l3).2.2.1, ?_⟩
  have d3 := d.le l3
  have l03 := l02.trans l3
  refine slices_Clone_string_string.c (hm.le l03) (by omega) fun p2 c2 H4 l4 B2 => ⟨(d3.le l4).2.2.2.2, (d3.le l4).2.2.2.1, ?_⟩
  have d4 := d3.le l4
  have l04 := l03.trans l4
  refine slices_Clone_string_string.c (hq.le l04) (by omega) fun p3 c3 H5 l5 B3 => ⟨(d4.le l5).2.2.2.2, ?_⟩
  have d5 := d4.le l5
  have l05 := l04.trans l5
  obtain ⟨zs, hzl, hzs, hze⟩ := HkH.rows hh
  refine slices_Clone_api_Hunk_api_Hunk.c (xs := zs) (hzs.le l05) (by omega) fun p4 c4 H6 l6 B4 => ?_
  have d6 := d5.le l6
  have l06 := l05.trans l6
  have e6 := (((e2.le l3).le l4).le l5).le l6
  have ok6 : Ok H6 ([some ⟨b, 0, none⟩, some ⟨b2, 0, none⟩] ++ [p1] ++ [p2] ++ [p3] ++ [p4]) := (((ok2.snoc B1.fr (bThere B1) l3).snoc B2.fr (bThere B2) l4).snoc B3.fr (bThere B3) l5).snoc B4.fr (bThere B4) l6
  have B1 := (bBack B1 l02).le (l4.trans (l5.trans l6))
  have B2 := (bBack B2 l03).le (l5.trans l6)
  have B3 := (bBack B3 l04).le l6
  have B4 := bBack B4 l05
  have pw6 := ok6.1
  simp only [List.cons_append, List.nil_append, List.pairwise_cons] at pw6
  have a1 : ∀ q ∈ [p1, p2, p3, p4, some ⟨b2, 0, none⟩], Apart (some ⟨b, 0, none⟩) q := fun q hq' => by
    simp only [List.mem_cons, List.not_mem_nil, or_false] at hq'
    refine pw6.1 q ?_
    simp only [List.mem_cons, List.not_mem_nil, or_false]
    rcases hq' with h | h | h | h | h <;> simp [h]
  clear ok2 d d3 d4 d5 e2
  refine put4 d6 fun H7 d7 m7 w7 => ?_
  have lz : Le H H7 := m7.le l06 fun q hq' => by simp at hq'; subst hq'; exact hb
  have B1 := bModA B1 m7 (a1 _ (by simp))
  have B2 := bModA B2 m7 (a1 _ (by simp))
  have B3 := bModA B3 m7 (a1 _ (by simp))
  have B4 := bModA B4 m7 (a1 _ (by simp))
  have nb2 : b2 ∉ [b] := fun h => by
    simp at h; subst h
    exact a1 (some ⟨b2, 0, none⟩) (by simp) b2 0 0 rfl rfl
  have e7 := e6.mod m7 nb2
  have ok7 := ok6.was w7
  clear ok6 d6 e6 l06
  refine ldL_i d7.2.2.2.2 ⟨fun t Hx => ∃ (i : Nat) (ys : List (BL × HD)), t = (i : Nat) ∧ i ≤ hl ∧ Le H Hx ∧ D5 Hx b x.id p1 dl c1 p2 ml c2 p3 ql c3 p4 hl c4 ∧ D5 Hx b2 0 none 0 0 none 0 0 none 0 0 none 0 0 ∧ Buf 1 H Hx p1 dl c1 (x.deps.map fU) ∧ Buf 1 H Hx p2 ml c2 (x.makes.map sv) ∧ Buf 1 H Hx p3 ql c3 (x.drops.map sv) ∧ Buf 4 H Hx p4 hl c4 (ys.flatMap hdC) ∧ ys.length = x.hunks.length ∧
    (∀ j (h1 : j < x.hunks.length) (h2 : j < ys.length), ys[j].1 = x.hunks[j].path ∧ (j < i → OwnH H Hx x.hunks[j] ys[j].2) ∧ (i ≤ j → RdH H x.hunks[j] ys[j].2)) ∧ Ok Hx ([some ⟨b, 0, none⟩, some ⟨b2, 0, none⟩, p1, p2, p3, p4] ++ (ys.take i).flatMap hdP), fun t _ => ((hl : Int) - t).toNat,
    ⟨0, zs, rfl, Nat.zero_le _, lz, d7, e7, B1, B2, B3, B4, hzl, fun j h1 h2 => ⟨(hze j h1 h2).1, fun h => absurd h (Nat.not_lt_zero _), fun _ => (hze j h1 h2).2⟩, by simpa using ok7⟩, ?_⟩
  clear B1 B2 B3 B4 d7 e7 ok7 lz m7 w7 H7
  rintro t Hx ⟨i, ys, rfl, gi, lx, dx, ex, B1, B2, B3, B4, hyl, hy, ok⟩
  refine bcd (fun hlt => ?_) fun hlt => ?_
  · have hi : i < x.hunks.length := by omega
    have hi2 : i < ys.length := by omega
    obtain ⟨bh, rfl⟩ := B4.some_of (by omega)
    obtain ⟨f1, _, f3⟩ := hy i hi hi2
    obtain ⟨s1, s2, s3⟩ := f3 (Nat.le_refl _)
    have hsm := hs.each _ (List.getElem_mem hi)
    have ss1 := hsm.adds
    have ss2 := hsm.edges
    have ss3 := hsm.kills
    have es1 := s1.len
    have es2 := s2.len
    have es3 := s3.len
    refine rsD (B4.sn hdC_len (by decide)) rfl hi2 ?_
    refine D4.mk fun q H7 hq7 dq l7 => ?_
    have d7 := dx.le l7
    have lx7 := lx.trans l7
    refine ldL_i d7.2.2.2.2 (ldL_i d7.2.2.2.2 (ldL_i d7.2.2.2.2 (ldL_i dq.2.1 (ldL_i dq.2.2.1 (ldL_i dq.2.2.2 ?_)))))
    refine slices_Clone_string_string.c (s1.le lx7) (by omega) fun r1 k1 H8 l8 A1 => ⟨(dq.le l8).2.2.2, (dq.le l8).2.2.1, (d7.le l8).2.2.2.2, (d7.le l8).2.2.2.2, (d7.le l8).2.2.2.2, ?_⟩
    have dq := dq.le l8
    have d8 := d7.le l8
    have lx8 := lx7.trans l8
    refine slices_Clone_api_Edge_api_Edge.c (s2.le lx8) (by omega) fun r2 k2 H9 l9 A2 => ⟨(dq.le l9).2.2.2, (d8.le l9).2.2.2.2, (d8.le l9).2.2.2.2, (d8.le l9).2.2.2.2, ?_⟩
    have d9 := d8.le l9
    have lx9 := lx8.trans l9
    refine slices_Clone_api_LineID_api_LineID.c (s3.le lx9) (by omega) fun r3 k3 H10 l10 A3 => ⟨(d9.le l10).2.2.2.2, (d9.le l10).2.2.2.2, (d9.le l10).2.2.2.2, ?_⟩
    have d10 := d9.le l10
    have lx10 := lx9.trans l10
    have lt10 := ((l7.trans l8).trans l9).trans l10
    have B4' := B4.le lt10
    have ok' := ((((ok.snoc (A1.fr.le l7) (bThere A1) (l7.trans l8)).snoc A2.fr (bThere A2) l9).snoc A3.fr (bThere A3) l10))
    have pw := ok.1
    have apb : Apart (some ⟨bh, 0, none⟩) (some ⟨b, 0, none⟩) := ((List.pairwise_cons.1 pw).1 _ (by simp)).symm
    have hbb : b ∉ [bh] := fun h => by
      simp at h; subst h; exact apb b 0 0 rfl rfl
    have apb2 : Apart (some ⟨bh, 0, none⟩) (some ⟨b2, 0, none⟩) := ((List.pairwise_cons.1 (List.pairwise_cons.1 pw).2).1 _ (by simp)).symm
    have hbb2 : b2 ∉ [bh] := fun h => by
      simp at h; subst h; exact apb2 b2 0 0 rfl rfl
    have pw2 := (List.pairwise_cons.1 (List.pairwise_cons.1 pw).2).2
    have ap1 : Apart (some ⟨bh, 0, none⟩) p1 := ((List.pairwise_cons.1 pw2).1 _ (by simp)).symm
    have pw3 := (List.pairwise_cons.1 pw2).2
    have ap2 : Apart (some ⟨bh, 0, none⟩) p2 := ((List.pairwise_cons.1 pw3).1 _ (by simp)).symm
    have pw4 := (List.pairwise_cons.1 pw3).2
    have ap3 : Apart (some ⟨bh, 0, none⟩) p3 := ((List.pairwise_cons.1 pw4).1 _ (by simp)).symm
    have pw5 := (List.pairwise_cons.1 pw4).2
    have apf : ∀ q ∈ (ys.take i).flatMap hdP, Apart (some ⟨bh, 0, none⟩) q := (List.pairwise_cons.1 pw5).1
    have th4 : There Hx (some ⟨bh, 0, none⟩) := bThere B4
    have apr1 : Apart (some ⟨bh, 0, none⟩) r1 := apThere (th4.was l7.was) A1.fr
    have apr2 : Apart (some ⟨bh, 0, none⟩) r2 := apThere (th4.was (l7.trans l8).was) A2.fr
    have apr3 : Apart (some ⟨bh, 0, none⟩) r3 := apThere (th4.was ((l7.trans l8).trans l9).was) A3.fr
    have A1 := (bBack A1 lx7).le (l9.trans l10)
    have A2 := (bBack A2 lx8).le l10
    have A3 := bBack A3 lx9
    have g : ∀ j, j < 4 → (ys.flatMap hdC)[i * 4 + j]? = (hdC ys[i])[j]? := fun j hj => flatMap_get hdC_len ys i hi2 j hj
    have w1 := B4'.rd (g 1 (by decide))
    have w2 := B4'.rd (g 2 (by decide))
    have w3 := B4'.rd (g 3 (by decide))
    rw [Nat.zero_add] at w1 w2 w3
    have gl : (ys.flatMap hdC).length = ys.length * 4 := flatMap_len hdC_len ys
    have C1 := B4'.set (i := i * 4 + 1) (v := .slice r1 ys[i].2.al k1) (by omega) rfl
    have C2 := C1.set (i := i * 4 + 2) (v := .slice r2 ys[i].2.el k2) (by rw [List.length_set, gl]; omega) rfl
    have C3 := C2.set (i := i * 4 + 3) (v := .slice r3 ys[i].2.kl k3) (by rw [List.length_set, List.length_set, gl]; omega) rfl
    have hset := hd_set ys i hi2 ⟨r1, ys[i].2.al, k1, r2, ys[i].2.el, k2, r3, ys[i].2.kl, k3⟩
    simp only at hset
    rw [hset] at C3
    have M1 : Mod [bh] H10 (wr H10 bh (i * 4 + 1) (.slice r1 ys[i].2.al k1)) := Mod.refl.wr (.inl (by simp))
    have M2 := M1.wr (b := bh) (o := i * 4 + 2) (v := .slice r2 ys[i].2.el k2) (.inl (by simp))
    have M3 := M2.wr (b := bh) (o := i * 4 + 3) (v := .slice r3 ys[i].2.kl k3) (.inl (by simp))
    refine idxN i rfl (by omega) (nil ?_)
    simp only [Nat.zero_add]
    refine st w1 ⟨(d10.mod M1 hbb).2.2.2.2, (d10.mod M1 hbb).2.2.2.2, ?_⟩
    refine idxN i rfl (by omega) (nil ?_)
    simp only [Nat.zero_add]
    refine st (by rw [rd_wr_off (by omega)]; exact w2) ⟨(d10.mod M2 hbb).2.2.2.2, ?_⟩
    refine idxN i rfl (by omega) (nil ?_)
    simp only [Nat.zero_add]
    refine st (by rw [rd_wr_off (by omega), rd_wr_off (by omega)]; exact w3) (chk (by omega) ⟨⟨i + 1, ys.set i (ys[i].1, ⟨r1, ys[i].2.al, k1, r2, ys[i].2.el, k2, r3, ys[i].2.kl, k3⟩), by omega, by omega, ?_, d10.mod M3 hbb, (ex.le lt10).mod M3 hbb2, bModA (B1.le lt10) M3 ap1, bModA (B2.le lt10) M3 ap2, bModA (B3.le lt10) M3 ap3, C3, by simp [hyl], fun j h1 h2 => ?_, ?_⟩, by first | omega | (dsimp only; omega)⟩)
    · exact M3.le lx10 fun q hq' => by simp at hq'; subst hq'; exact B4.fr q 0 rfl
    · have hj : j < ys.length := by omega
      by_cases hji : j = i
      · subst hji
        rw [List.getElem_set_self]
        refine ⟨f1, fun _ => ?_, fun h => absurd h (by omega)⟩
        exact ⟨bModA A1 M3 apr1, bModA A2 M3 apr2, bModA A3 M3 apr3⟩
      · rw [List.getElem_set_ne (fun h => hji h.symm)]
        obtain ⟨g1, g2, g3⟩ := hy j h1 hj
        refine ⟨g1, fun hjl => ?_, fun h => g3 (by omega)⟩
        refine ((g2 (by omega)).le lt10).mod (z := ys[j]) M3 fun q hq' => apf q ?_
        exact List.mem_flatMap.2 ⟨ys[j], List.mem_iff_getElem.2 ⟨j, by rw [List.length_take]; omega, by rw [List.getElem_take]⟩, hq'⟩
    · rw [take_set hi2, List.flatMap_append, ← List.append_assoc]
      have : List.flatMap hdP [(ys[i].1, (⟨r1, ys[i].2.al, k1, r2, ys[i].2.el, k2, r3, ys[i].2.kl, k3⟩ : HD))] = [r1] ++ ([r2] ++ [r3]) := rfl
      rw [this, ← List.append_assoc, ← List.append_assoc]
      exact ok'.was ((was_wr.trans was_wr).trans was_wr)
  · have hi : i = hl := by omega
    refine ldI_i dx.1 (ldL_i dx.2.1 (ldL_i dx.2.2.1 (ldL_i dx.2.2.2.1 (ldL_i dx.2.2.2.2 ?_))))
    refine put5 ex fun H7 d7 m7 w7 => ldI_i d7.1 (ldL_i d7.2.1 (ldL_i d7.2.2.1 (ldL_i d7.2.2.2.1 (ldL_i d7.2.2.2.2 ?_))))
    have pw := ok.1
    have pw2 := List.pairwise_cons.1 (List.pairwise_cons.1 pw).2
    rw [List.take_of_length_le (by omega)] at pw2
    have ap : ∀ q ∈ [p1, p2, p3, p4] ++ ys.flatMap hdP, Apart (some ⟨b2, 0, none⟩) q := pw2.1
    have hb2' : H b2 = none := none_of_le l1 hb2
    refine hK p1 c1 p2 c2 p3 c3 p4 c4 ys H7 (m7.le lx fun q hq' => by simp at hq'; subst hq'; exact hb2') ⟨rfl, bModA B1 m7 (ap _ (by simp)), bModA B2 m7 (ap _ (by simp)), bModA B3 m7 (ap _ (by simp)), ⟨hyl, bModA B4 m7 (ap _ (by simp)), fun j h1 h2 => ⟨(hy j h1 h2).1, ((hy j h1 h2).2.1 (by omega)).mod (z := ys[j]) m7 fun q hq' => ap q ?_⟩⟩, pw2.2⟩
    exact List.mem_append_right _ (List.mem_flatMap.2 ⟨ys[j], List.getElem_mem h2, hq'⟩)
end
end Go.Proofs.YtbpbgkpkkklipaaGreat
namespace Go.Proofs.YtbpbgkpkkklipaaGreat
open Go.V
/-! ### Numbers of patches -/
theorem wrap16 (x : Int) : IntKind.wrap .u16 x = x % 65536 := by simp [IntKind.wrap, IntKind.signed, IntKind.bits]
theorem u32w {e : Int} (h : 0 ≤ e ∧ e < 4294967296) : IntKind.wrap .u32 e = e := wrap_in .u32 (by simp [IntKind.min, IntKind.max, IntKind.signed, IntKind.bits]; omega)
theorem ofInt32 {a : Nat} (ha : a < 4294967296) : (BitVec.ofInt 32 (a : Int)).toNat = a := by
  rw [BitVec.ofInt_natCast, BitVec.toNat_ofNat]; exact Nat.mod_eq_of_lt (by omega)
theorem ior32 {a b : Nat} (ha : a < 4294967296) (hb : b < 4294967296) : ior .u32 (a : Int) (b : Int) = ((a ||| b : Nat) : Int) := by
  have hx : a ||| b < 2 ^ 32 := Nat.or_lt_two_pow (by omega) (by omega)
  show IntKind.u32.wrap ((BitVec.ofInt 32 (a : Int) ||| BitVec.ofInt 32 (b : Int)).toNat : Int) = _
  rw [BitVec.toNat_or, ofInt32 ha, ofInt32 hb, u32w (by omega)]
theorem iand32 {a : Nat} (ha : a < 4294967296) : iand .u32 (a : Int) (65535 : Int) = ((a % 65536 : Nat) : Int) := by
  have e : ((65535 : Nat) : Int) = (65535 : Int) := rfl
  have hm : a &&& 65535 = a % 65536 := Nat.and_two_pow_sub_one_eq_mod a 16
  show IntKind.u32.wrap ((BitVec.ofInt 32 (a : Int) &&& BitVec.ofInt 32 (65535 : Int)).toNat : Int) = _
  rw [← e, BitVec.toNat_and, ofInt32 ha, ofInt32 (by decide), hm, u32w (by omega)]
theorem ishl32 {a : Nat} (h : a < 65536) : ishl .u32 (a : Int) (16 : Int) = ((a * 65536 : Nat) : Int) := by
  show IntKind.u32.wrap ((a : Int) * 2 ^ 16) = _
  have e : (a : Int) * 2 ^ 16 = ((a * 65536 : Nat) : Int) := by omega
  rw [e, u32w (by omega)]
theorem ishr32 {a : Nat} : ishr .u32 (a : Int) (16 : Int) = ((a / 65536 : Nat) : Int) := by
  show (a : Int).fdiv (2 ^ 16) = _
  rw [Int.fdiv_eq_ediv_of_nonneg _ (by decide)]; omega
theorem id_or {a b : Nat} (hb : b < 65536) : a * 65536 ||| b = a * 65536 + b := by
  have := Nat.shiftLeft_add_eq_or_of_lt (i := 16) (b := b) (by omega) a
  rw [Nat.shiftLeft_eq] at this
  exact this.symm
def idN (w s : Int) : Nat := (w % 65536).toNat * 65536 + (s % 65536).toNat
section
variable {H : Hp}
end
/-! ### Known patches -/
def xk : Pt := ⟨65537, [], [[97]], [], [⟨[97], [[120, 10], [121]], [⟨⟨65537, 0⟩, ⟨65537, 1⟩⟩], []⟩]⟩
def xb : Pt := ⟨65537, [], [[97]], [], [⟨[97], [[10, 10], [121]], [⟨⟨65537, 0⟩, ⟨65537, 1⟩⟩], []⟩]⟩
def xz : Pt := ⟨0, [], [], [], []⟩
theorem xk_is : isB xk = true := by decide
theorem xb_is : isB xb = false := by decide
theorem xz_is : isB xz = false := by decide
theorem xk_needs : needsL xk = [] := by decide
theorem xk_paths : pathsL xk = [[97]] := by decide
theorem xk_ne : ¬ xk = xb := by decide
theorem path_ok : pathB [97, 47, 98, 46, 99] = true := by decide
theorem path_no : pathB [65] = false := by decide
theorem hkSm_of (h : Hk) (hp : h.path.length ≤ 1000) (ha : h.adds.length ≤ 1000) (he : h.edges.length ≤ 1000) (hk : h.kills.length ≤ 1000) (ht : ∀ s ∈ h.adds, s.length ≤ 1000000) : HkSm h := ⟨by omega, ha, he, hk, ht⟩
theorem xk_sm : PtSm xk := ⟨by decide, by decide, by decide, by decide, by decide, by decide, fun h hh => by
  simp only [xk, List.mem_singleton] at hh; subst hh; exact ⟨by decide, by decide, by decide, by decide, by decide⟩⟩
theorem xb_sm : PtSm xb := ⟨by decide, by decide, by decide, by decide, by decide, by decide, fun h hh => by
  simp only [xb, List.mem_singleton] at hh; subst hh; exact ⟨by decide, by decide, by decide, by decide, by decide⟩⟩
theorem xz_sm : PtSm xz := ⟨by decide, by decide, by decide, by decide, by decide, by decide, fun h hh => by simp [xz] at hh⟩
theorem xz_pt {H : Hp} : PtS H 0 none 0 0 none 0 0 none 0 0 none 0 0 xz := ⟨rfl, Sl.nil, Sl.nil, Sl.nil, rfl, Nat.le_refl _, .inl rfl⟩
end Go.Proofs.YtbpbgkpkkklipaaGreat
namespace Go.Proofs.YtbpbgkpkkklipaaGreat
open Go.V
/-! ### Few -/
def fewH (h : Hk) : Bool := decide (h.adds.length ≤ 50) && (decide (h.edges.length ≤ 90) && (decide (h.kills.length ≤ 50) && (decide (h.path.length ≤ 40) && h.adds.all fun s => decide (s.length ≤ 100))))
def fewB (x : Pt) : Bool := x.hunks.all fewH && ((x.makes.all fun s => decide (s.length ≤ 40)) && ((x.drops.all fun s => decide (s.length ≤ 40)) && (decide (x.hunks.length ≤ 8) && (decide (x.deps.length ≤ 70) && (decide (x.makes.length ≤ 10) && decide (x.drops.length ≤ 10))))))
theorem fewB_sm {x : Pt} (h : fewB x = true) : PtSm x := by
  simp only [fewB, fewH, Bool.and_eq_true, List.all_eq_true, decide_eq_true_eq] at h
  obtain ⟨h1, h2, h3, h4, h5, h6, h7⟩ := h
  refine ⟨by omega, by omega, by omega, by omega, fun s hs => Nat.le_trans (h2 s hs) (by decide), fun s hs => Nat.le_trans (h3 s hs) (by decide), fun g hg => ?_⟩
  obtain ⟨g1, g2, g3, g4, g5⟩ := h1 g hg
  exact ⟨by omega, by omega, by omega, by omega, fun s hs => Nat.le_trans (g5 s hs) (by decide)⟩
section
variable {H : Hp} {id : Int} {dp mp qp hp : Option Addr} {dl dc ml mc ql qc hl hc : Nat} {x : Pt}
theorem mkB_sz (s : BL) : (mkB s).size = s.length := mkB_size s
theorem centolaw17_few.c {K : Bool → Hp → Prop} (h : PtS H id dp dl dc mp ml mc qp ql qc hp hl hc x) (sl : hl ≤ 9223372036854775807 ∧ ml ≤ 9223372036854775807 ∧ ql ≤ 9223372036854775807) (hK : ∀ H', Le H H' → K (fewB x) H') : centolaw17_few.C id dp dl dc mp ml mc qp ql qc hp hl hc H K := by
  apply centolaw17_few.of
  intro b hb
  have l1 := Le.upd (c := [.int .u32 id, .slice dp dl dc, .slice mp ml mc, .slice qp ql qc, .slice hp hl hc]) hb
  have d := D5.new (H := H) (b := b) (id := id) (dp := dp) (dl := dl) (dc := dc) (mp := mp) (ml := ml) (mc := mc) (qp := qp) (ql := ql) (qc := qc) (hp := hp) (hl := hl) (hc := hc)
  revert l1 d
  generalize upd H b [.int .u32 id, .slice dp dl dc, .slice mp ml mc, .slice qp ql qc, .slice hp hl hc] = H1
  intro l1 d
  obtain ⟨rfl, hd, hm, hq, hh⟩ := h
  have eh := hh.1
  have ed := hd.len
  have em := hm.len
  have eq := hq.len
  have hh1 := HkH_le hh l1
  unfold fewB at hK
  refine ⟨fun t Hx => ∃ i : Nat, t = (i : Nat) ∧ i ≤ hl ∧ Le H1 Hx ∧ (x.hunks.take i).all fewH = true, fun t _ => ((hl : Int) - t).toNat, ⟨0, rfl, Nat.zero_le _, Le.refl _, rfl⟩, ?_⟩
  rintro t Hx ⟨i, rfl, gi, lx, hp1⟩
  have dx := d.le lx
  refine ldL_i dx.2.2.2.2 (bcd (fun hlt => ldL_i dx.2.2.2.2 ?_) fun hlt => ?_)
  · have hi : i < x.hunks.length := by omega
    have bad : ∀ {Hy}, Le H1 Hy → fewH x.hunks[i] = false → K false Hy := fun {Hy} ly hb => by
      have := hK _ (l1.trans ly)
      rw [all_bad hi hb] at this; exact this
    refine rsH2 hh1 lx rfl hi fun ap al ac ep el ec kp kl kc s1 s2 s3 => D4.mk fun q H2 hq2 dq l2 => ?_
    have e1 := s1.len
    have e2 := s2.len
    have e3 := s3.len
    have lx2 := lx.trans l2
    refine ldL_i dq.2.1 (bcd (fun g => bad lx2 ?_) fun g1 => ldL_i dq.2.2.1 (bcd (fun g => bad lx2 ?_) fun g2 => ldL_i dq.2.2.2 (bcd (fun g => bad lx2 ?_) fun g3 => ldS_i dq.1 ?_)))
    · unfold fewH; rw [decide_eq_false (by omega)]; rfl
    · unfold fewH; rw [decide_eq_false (by omega : ¬ x.hunks[i].edges.length ≤ 90)]; simp
    · unfold fewH; rw [decide_eq_false (by omega : ¬ x.hunks[i].kills.length ≤ 50)]; simp
    rw [mkB_sz]
    refine bcd (fun g => bad lx2 ?_) fun g4 => ?_
    · unfold fewH; rw [decide_eq_false (by omega : ¬ x.hunks[i].path.length ≤ 40)]; simp
    unfold centolaw17_few.k1
    refine ⟨fun t Hy => ∃ j : Nat, t = (j : Nat) ∧ j ≤ al ∧ Le H2 Hy ∧ ((x.hunks[i].adds.take j).all fun s => decide (s.length ≤ 100)) = true, fun t _ => ((al : Int) - t).toNat, ⟨0, rfl, Nat.zero_le _, Le.refl _, rfl⟩, ?_⟩
    rintro t Hy ⟨j, rfl, gj, ly, hp2⟩
    have dy := dq.le ly
    refine ldL_i dy.2.1 (bcd (fun hlt => ldL_i dy.2.1 ?_) fun hlt => ?_)
    · have hj : j < x.hunks[i].adds.length := by omega
      refine rsT (s1.le (lx2.trans ly)) rfl hj ?_
      rw [mkB_sz]
      refine bcd (fun g => bad (lx2.trans ly) ?_) fun g => chk (by omega) ⟨⟨j + 1, by omega, by omega, ly, all_next hj hp2 (by rw [decide_eq_true_eq]; omega)⟩, by first | omega | (dsimp only; omega)⟩
      unfold fewH
      rw [all_bad (f := fun s : BL => decide (s.length ≤ 100)) hj (by rw [decide_eq_false_iff_not]; omega)]; simp
    · refine chk (by omega) ⟨⟨i + 1, by omega, by omega, lx2.trans ly, all_next hi hp1 ?_⟩, by first | omega | (dsimp only; omega)⟩
      unfold fewH
      rw [all_end hp2 (by omega), decide_eq_true (by omega), decide_eq_true (by omega), decide_eq_true (by omega), decide_eq_true (by omega)]; rfl
  rw [all_end hp1 (by omega)] at hK
  simp only [Bool.true_and] at hK
  refine ⟨fun t Hx => ∃ i : Nat, t = (i : Nat) ∧ i ≤ ml ∧ Le H1 Hx ∧ ((x.makes.take i).all fun s => decide (s.length ≤ 40)) = true, fun t _ => ((ml : Int) - t).toNat, ⟨0, rfl, Nat.zero_le _, lx, rfl⟩, ?_⟩
  clear dx hlt
  rintro t Hy ⟨j, rfl, gj, ly, hp2⟩
  have dy := d.le ly
  refine ldL_i dy.2.2.1 (bcd (fun hlt => ldL_i dy.2.2.1 ?_) fun hlt => ?_)
  · have hj : j < x.makes.length := by omega
    refine rsT (hm.le (l1.trans ly)) rfl hj ?_
    rw [mkB_sz]
    refine bcd (fun g => ?_) fun g => chk (by omega) ⟨⟨j + 1, by omega, by omega, ly, all_next hj hp2 (by rw [decide_eq_true_eq]; omega)⟩, by first | omega | (dsimp only; omega)⟩
    have := hK _ (l1.trans ly)
    rw [all_bad (f := fun s : BL => decide (s.length ≤ 40)) hj (by rw [decide_eq_false_iff_not]; omega)] at this; exact this
  rw [all_end hp2 (by omega)] at hK
  simp only [Bool.true_and] at hK
  refine ⟨fun t Hx => ∃ i : Nat, t = (i : Nat) ∧ i ≤ ql ∧ Le H1 Hx ∧ ((x.drops.take i).all fun s => decide (s.length ≤ 40)) = true, fun t _ => ((ql : Int) - t).toNat, ⟨0, rfl, Nat.zero_le _, ly, rfl⟩, ?_⟩
  clear dy hlt
  rintro t Hz ⟨k, rfl, gk, lz, hp3⟩
  have dz := d.le lz
  refine ldL_i dz.2.2.2.1 (bcd (fun hlt => ldL_i dz.2.2.2.1 ?_) fun hlt => ?_)
  · have hj : k < x.drops.length := by omega
    refine rsT (hq.le (l1.trans lz)) rfl hj ?_
    rw [mkB_sz]
    refine bcd (fun g => ?_) fun g => chk (by omega) ⟨⟨k + 1, by omega, by omega, lz, all_next hj hp3 (by rw [decide_eq_true_eq]; omega)⟩, by first | omega | (dsimp only; omega)⟩
    have := hK _ (l1.trans lz)
    rw [all_bad (f := fun s : BL => decide (s.length ≤ 40)) hj (by rw [decide_eq_false_iff_not]; omega)] at this; exact this
  rw [all_end hp3 (by omega)] at hK
  simp only [Bool.true_and] at hK
  have hK := hK _ (l1.trans lz)
  refine ldL_i dz.2.2.2.2 (bcd (fun g1 => ldL_i dz.2.1 (bcd (fun g2 => ldL_i dz.2.2.1 (bcd (fun g3 => ldL_i dz.2.2.2.1 ?_) fun g => ?_)) fun g => ?_)) fun g => ?_)
  · rw [decide_eq_true (by omega), decide_eq_true (by omega), decide_eq_true (by omega)] at hK
    simp only [Bool.true_and] at hK
    have : decide (((ql : Nat) : Int) ≤ (10 : Int)) = decide (x.drops.length ≤ 10) := decide_eq_decide.2 (by omega)
    rw [this]; exact hK
  · rw [decide_eq_true (by omega), decide_eq_true (by omega), decide_eq_false (by omega)] at hK; exact hK
  · rw [decide_eq_true (by omega), decide_eq_false (by omega)] at hK; exact hK
  · rw [decide_eq_false (by omega)] at hK; exact hK
end
end Go.Proofs.YtbpbgkpkkklipaaGreat
namespace Go.Proofs.YtbpbgkpkkklipaaGreat
open Go.V
/-! ### Patches that come in -/
abbrev lidE : Enc (Int × Int) := (Enc.int .u32).pair (Enc.int .i64)
abbrev edE : Enc ((Int × Int) × (Int × Int)) := lidE.pair lidE
abbrev hkE : Enc (ByteArray × List ByteArray × List ((Int × Int) × (Int × Int)) × List (Int × Int)) := Enc.str.pair (Enc.str.sl.pair (edE.sl.pair lidE.sl))
abbrev PtX : Type := Int × List Int × List ByteArray × List ByteArray × List (ByteArray × List ByteArray × List ((Int × Int) × (Int × Int)) × List (Int × Int))
abbrev ptE : Enc PtX := (Enc.int .u32).pair ((Enc.int .u32).sl.pair (Enc.str.sl.pair (Enc.str.sl.pair hkE.sl)))
def toLid (x : Int × Int) : Lid := ⟨x.1, x.2⟩
def toEd (x : (Int × Int) × (Int × Int)) : Ed := ⟨toLid x.1, toLid x.2⟩
def toHk (x : ByteArray × List ByteArray × List ((Int × Int) × (Int × Int)) × List (Int × Int)) : Hk := ⟨L x.1, x.2.1.map L, x.2.2.1.map toEd, x.2.2.2.map toLid⟩
def toPt (x : PtX) : Pt := ⟨x.1, x.2.1, x.2.2.1.map L, x.2.2.2.1.map L, x.2.2.2.2.map toHk⟩
theorem lidE_rep {H : Hp} {cs : List Value} {x : Int × Int} (h : lidE.rep H cs x) : cs = lidC (toLid x) := by
  obtain ⟨c1, c2, rfl, ⟨h1, _⟩, ⟨h2, _⟩⟩ := h
  rw [h1, h2]; rfl
theorem edE_rep {H : Hp} {cs : List Value} {x : (Int × Int) × (Int × Int)} (h : edE.rep H cs x) : cs = edC (toEd x) := by
  obtain ⟨c1, c2, rfl, h1, h2⟩ := h
  rw [lidE_rep h1, lidE_rep h2]; rfl
theorem strs_sv {H : Hp} {p : Option Addr} {l c : Nat} {xs : List ByteArray} (h : Enc.str.rows H p l c xs) : Sl sv H p l c (xs.map L) := by
  obtain ⟨e, hc, hh⟩ := h.strs
  refine ⟨by rw [List.length_map]; exact e, hc, hh.imp (fun e => by rw [e]; rfl) fun ⟨b, o, e, hh⟩ => ⟨b, o, e, fun i hi => ?_⟩⟩
  rw [List.length_map] at hi
  rw [List.getElem_map]
  exact hh i hi
theorem hks_hkH {H : Hp} {p : Option Addr} {l c : Nat} {xs : List (ByteArray × List ByteArray × List ((Int × Int) × (Int × Int)) × List (Int × Int))} (h : hkE.rows H p l c xs) : HkH H p l c (xs.map toHk) := by
  refine ⟨by rw [List.length_map]; exact h.1, h.2.1, ?_⟩
  by_cases hn : xs = []
  · left; rw [hn]; rfl
  · right
    have hpos : 0 < xs.length := List.length_pos_iff.2 hn
    obtain ⟨b, o, hp⟩ := h.2.2.2.1 (by have := h.1; have := h.2.1; omega)
    refine ⟨b, o, hp, fun i hi => ?_⟩
    rw [List.length_map] at hi
    obtain ⟨cs, ⟨c1, c2, rfl, ⟨h1, _⟩, ⟨c3, c4, rfl, ⟨ap, al, ac, rfl, h3⟩, ⟨c5, c6, rfl, ⟨ep, el, ec, rfl, h4⟩, ⟨kp, kl, kc, rfl, h5⟩⟩⟩⟩, h6⟩ := h.2.2.2.2 b o hp i hi
    rw [List.getElem_map]
    have h1 : c1 = [.string xs[i].1] := h1
    subst h1
    exact ⟨ap, al, ac, ep, el, ec, kp, kl, kc, h6 0 _ rfl, h6 1 _ rfl, h6 2 _ rfl, h6 3 _ rfl, strs_sv h3, (h4.sn edE_rep).map, (h5.sn lidE_rep).map⟩
theorem ptE_rep {H : Hp} {cs : List Value} {x : PtX} (h : ptE.rep H cs x) :
    ∃ dp dl dc mp ml mc qp ql qc hp hl hc, cs = [.int .u32 x.1, .slice dp dl dc, .slice mp ml mc, .slice qp ql qc, .slice hp hl hc] ∧ PtS H x.1 dp dl dc mp ml mc qp ql qc hp hl hc (toPt x) ∧ (hl ≤ 9223372036854775807 ∧ ml ≤ 9223372036854775807 ∧ ql ≤ 9223372036854775807) := by
  obtain ⟨c1, c2, rfl, ⟨h1, _⟩, ⟨c3, c4, rfl, ⟨dp, dl, dc, rfl, h2⟩, ⟨c5, c6, rfl, ⟨mp, ml, mc, rfl, h3⟩, ⟨c7, c8, rfl, ⟨qp, ql, qc, rfl, h4⟩, ⟨hp, hl, hc, rfl, h5⟩⟩⟩⟩⟩ := h
  have h1 : c1 = [.int .u32 x.1] := h1
  subst h1
  exact ⟨dp, dl, dc, mp, ml, mc, qp, ql, qc, hp, hl, hc, rfl, ⟨rfl, h2.ints, strs_sv h3, strs_sv h4, hks_hkH h5⟩, Nat.le_trans h5.2.1 h5.2.2.1, Nat.le_trans h3.2.1 h3.2.2.1, Nat.le_trans h4.2.1 h4.2.2.1⟩
end Go.Proofs.YtbpbgkpkkklipaaGreat
namespace Go.Proofs.YtbpbgkpkkklipaaGreat
open Go.V
/-! ### A part of a patch is set -/
section
variable {H : Hp} {b : Nat} {id : Int} {dp mp qp hp : Option Addr} {dl dc ml mc ql qc hl hc : Nat}
theorem put0 (h : D5 H b id dp dl dc mp ml mc qp ql qc hp hl hc) {id' : Int} {F : Hp → Prop} (hF : ∀ H', D5 H' b id' dp dl dc mp ml mc qp ql qc hp hl hc → Mod [b] H H' → Was H H' → F H') : ST H b 0 (.int .u32 id') F :=
  st h.1 (hF _ ⟨rd_wr_self h.1, by rw [rd_wr_off (by decide)]; exact h.2.1, by rw [rd_wr_off (by decide)]; exact h.2.2.1, by rw [rd_wr_off (by decide)]; exact h.2.2.2.1, by rw [rd_wr_off (by decide)]; exact h.2.2.2.2⟩ (Mod.refl.wr (.inl (by simp))) was_wr)
theorem put1 (h : D5 H b id dp dl dc mp ml mc qp ql qc hp hl hc) {p' : Option Addr} {l' c' : Nat} {F : Hp → Prop} (hF : ∀ H', D5 H' b id p' l' c' mp ml mc qp ql qc hp hl hc → Mod [b] H H' → Was H H' → F H') : ST H b 1 (.slice p' l' c') F :=
  st h.2.1 (hF _ ⟨by rw [rd_wr_off (by decide)]; exact h.1, rd_wr_self h.2.1, by rw [rd_wr_off (by decide)]; exact h.2.2.1, by rw [rd_wr_off (by decide)]; exact h.2.2.2.1, by rw [rd_wr_off (by decide)]; exact h.2.2.2.2⟩ (Mod.refl.wr (.inl (by simp))) was_wr)
theorem put2 (h : D5 H b id dp dl dc mp ml mc qp ql qc hp hl hc) {p' : Option Addr} {l' c' : Nat} {F : Hp → Prop} (hF : ∀ H', D5 H' b id dp dl dc p' l' c' qp ql qc hp hl hc → Mod [b] H H' → Was H H' → F H') : ST H b 2 (.slice p' l' c') F :=
  st h.2.2.1 (hF _ ⟨by rw [rd_wr_off (by decide)]; exact h.1, by rw [rd_wr_off (by decide)]; exact h.2.1, rd_wr_self h.2.2.1, by rw [rd_wr_off (by decide)]; exact h.2.2.2.1, by rw [rd_wr_off (by decide)]; exact h.2.2.2.2⟩ (Mod.refl.wr (.inl (by simp))) was_wr)
theorem put3 (h : D5 H b id dp dl dc mp ml mc qp ql qc hp hl hc) {p' : Option Addr} {l' c' : Nat} {F : Hp → Prop} (hF : ∀ H', D5 H' b id dp dl dc mp ml mc p' l' c' hp hl hc → Mod [b] H H' → Was H H' → F H') : ST H b 3 (.slice p' l' c') F :=
  st h.2.2.2.1 (hF _ ⟨by rw [rd_wr_off (by decide)]; exact h.1, by rw [rd_wr_off (by decide)]; exact h.2.1, by rw [rd_wr_off (by decide)]; exact h.2.2.1, rd_wr_self h.2.2.2.1, by rw [rd_wr_off (by decide)]; exact h.2.2.2.2⟩ (Mod.refl.wr (.inl (by simp))) was_wr)
end
theorem centoref12_Has.c {H : Hp} {K : Bool → Hp → Prop} {p : Option Addr} {l c : Nat} {xs : List Int} {v : Int} (h : Sl fU H p l c xs) (hl : l ≤ 1000000000) (hK : K (decide (v ∈ xs)) H) : centoref12_Has.C p l c v H K := by
  apply centoref12_Has.of
  have e := h.len
  refine ⟨fun t Hx => ∃ i : Nat, t = (i : Nat) ∧ i ≤ l ∧ Hx = H ∧ v ∉ xs.take i, fun t _ => ((l : Int) - t).toNat, ⟨0, rfl, Nat.zero_le _, rfl, by simp⟩, ?_⟩
  rintro t Hx ⟨i, rfl, gi, rfl, hn⟩
  refine bcd (fun hlt => ?_) fun hlt => ?_
  · have hi : i < xs.length := by omega
    refine rsU h rfl hi (bcd (fun he => ?_) fun he => chk (by omega) ⟨⟨i + 1, by omega, by omega, by trivial, fun hm => ?_⟩, by first | omega | (dsimp only; omega)⟩)
    · rw [decide_eq_true (by rw [← he]; exact List.getElem_mem hi)] at hK; exact hK
    · rw [List.take_succ_eq_append_getElem hi, List.mem_append] at hm
      rcases hm with hm | hm
      · exact hn hm
      · simp at hm; exact he hm.symm
  · rw [List.take_of_length_le (by omega)] at hn
    rw [decide_eq_false hn] at hK; exact hK
/-! ### What a patch needs is told -/
theorem needsL_mem {x : Pt} {n : Int} (h : n ∈ needsL x) : ¬ n = x.id := by
  have := uniqL_mem.1 h
  have := (List.mem_filter.1 this).2
  simpa using this
theorem needsL_pw (x : Pt) : (needsL x).Pairwise fun a b => Sort.ltInt a b = true := uniqL_pw ltInt_tr fun _ _ => ltInt_anti
theorem isB_deps {x : Pt} (h : isB x = true) : depsB x = true := by
  simp only [isB, Bool.and_eq_true] at h
  exact h.2.2.2.2.1
theorem depsB_needs {x : Pt} (h : depsB x = true) {n : Int} (hn : n ∈ needsL x) : n ∈ x.deps := by
  simp only [depsB, Bool.and_eq_true, List.all_eq_true, decide_eq_true_eq] at h
  exact h.2.2.2.2 n hn
theorem isB_not {x : Pt} {n : Int} (hn : n ∈ needsL x) (hd : n ∉ x.deps) : isB x = false := by
  cases e : isB x with
  | false => rfl
  | true => exact absurd (depsB_needs (isB_deps e) hn) hd
end Go.Proofs.YtbpbgkpkkklipaaGreat
namespace Go.Proofs.YtbpbgkpkkklipaaGreat
open Go.V
/-! ### A patch spoilt -/
theorem isB_id {x : Pt} (h : isB x = true) : ¬ x.id = 0 := by
  simp only [isB, Bool.and_eq_true, decide_eq_true_eq] at h
  exact h.1
theorem isB_of {x : Pt} (h : isB x = true) : pathsB x.makes = true ∧ pathsB x.drops = true ∧ depsB x = true ∧ hunksB x.id 0 [] x.hunks = true := by
  simp only [isB, Bool.and_eq_true] at h
  exact ⟨h.2.2.1, h.2.2.2.1, h.2.2.2.2.1, h.2.2.2.2.2.2⟩
theorem hunksB_each {id : Int} : ∀ {hs : List Hk} {fr : Int} {last : BL}, hunksB id fr last hs = true → ∀ h ∈ hs, ∃ fr', hunkB id fr' h = true
  | [], _, _, _, h, hh => by simp at hh
  | g :: r, fr, last, e, h, hh => by
    simp only [hunksB, Bool.and_eq_true] at e
    rcases List.mem_cons.1 hh with rfl | hh
    · exact ⟨fr, e.2.2.1⟩
    · exact hunksB_each e.2.2.2 h hh
theorem notB {x : Pt} (h : isB x = true → False) : isB x = false := by
  cases e : isB x with
  | false => rfl
  | true => exact (h e).elim
theorem spoil0 (x : Pt) : isB { x with id := 0 } = false := notB fun h => isB_id h rfl
theorem spoil1 (x : Pt) : isB { x with deps := x.deps ++ [x.id] } = false := notB fun h => by
  have := (isB_of h).2.2.1
  simp only [depsB, Bool.and_eq_true, Bool.not_eq_true', decide_eq_false_iff_not] at this
  exact this.2.2.2.1 (by simp)
theorem spoil2 (x : Pt) : isB { x with makes := x.makes ++ [[66]] } = false := notB fun h => by
  have := (isB_of h).1
  simp only [pathsB, Bool.and_eq_true, List.all_eq_true] at this
  have := this.2.2 [66] (by simp)
  revert this; decide
theorem spoil3 (x : Pt) : isB { x with drops := x.drops ++ [[97], [97]] } = false := notB fun h => by
  have := (isB_of h).2.1
  simp only [pathsB, Bool.and_eq_true] at this
  have h2 := this.2.1
  rw [rsB_pw ltStr_tr] at h2
  have h3 := (List.pairwise_append.1 h2).2.1
  have h4 := (List.pairwise_cons.1 h3).1 [97] (by simp)
  rw [ltStr_irr] at h4; cases h4
theorem spoilH (x : Pt) {hs : List Hk} {h : Hk} (hm : h ∈ hs) (hb : ∀ fr, hunkB x.id fr h = false) : isB { x with hunks := hs } = false := notB fun e => by
  obtain ⟨fr, h2⟩ := hunksB_each (isB_of e).2.2.2 h hm
  rw [hb fr] at h2; cases h2
theorem spoil4 (id fr : Int) (h : Hk) : hunkB id fr { h with adds := h.adds ++ [[]] } = false := by
  have : (h.adds ++ [[]]).all lineB = false := List.all_eq_false.2 ⟨[], by simp, by decide⟩
  unfold hunkB
  simp only [this, Bool.false_and, Bool.and_false]
theorem spoil5 (id fr : Int) (h : Hk) (y : Lid) : hunkB id fr { h with edges := h.edges ++ [⟨y, y⟩] } = false := by
  have : ((h.edges ++ [(⟨y, y⟩ : Ed)]).all fun e => namedB id fr h.adds.length e.a && (namedB id fr h.adds.length e.b && decide (¬ e.a = e.b))) = false := List.all_eq_false.2 ⟨⟨y, y⟩, by simp, by simp⟩
  unfold hunkB
  simp only [this, Bool.false_and, Bool.and_false]
theorem len_ne {α : Type} {a b : List α} (h : a.length ≠ b.length) : ¬ a = b := fun e => h (by rw [e])
end Go.Proofs.YtbpbgkpkkklipaaGreat
