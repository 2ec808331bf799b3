/- Contracts and plain laws that the claim rests on, for every input: no condition. -/
import Derived.Test.YtbpbgkpkkklipaaZ2
namespace Go.Proofs.Ytbpbgkpkkklipaa
open Go.V
-- cento/centolaw17.StoreNeeds (3)
def centolaw17_StoreNeeds.ann : Ann := { loops := [(0, [(8, .one (.int .i64))]), (2, [(11, .one (.int .i64))]), (4, [(13, .one .slice), (14, .one (.int .i64))])], pars := [] }
def centolaw17_StoreNeeds.k3 (K : Bool → Hp → Prop) (drop7 : Int) (idsc6 : Nat) (idsl5 : Nat) (idsp4 : Option Addr) (r19 : Option Addr) (rc61 : Nat) (rl60 : Nat) (rp59 : Option Addr) (Hx109 : Hp) : Prop :=
  CHK .i64 drop7 fun x110 => ¬ ((rl60 : Nat) : Int) = 0 ∧ (IDX (Int.tmod x110 ((rl60 : Nat) : Int)) rl60 fun k111 => NIL rp59 fun bq112 oq113 => ldI .u32 (rd Hx109 bq112 (oq113 + k111)) fun x114 => ∃ (Iq120 : Option Addr → Nat → Nat → Int → Hp → Prop) (mu121 : Option Addr → Nat → Nat → Int → Hp → Nat), Iq120 none 0 0 (0 : Int) Hx109 ∧ ∀ (mp115 : Option Addr) (ml116 : Nat) (mc117 : Nat) (i118 : Int) (Hx119 : Hp), Iq120 mp115 ml116 mc117 i118 Hx119 → bc ((decide (i118 < ((rl60 : Nat) : Int)))) (IDX i118 rl60 fun k122 => NIL rp59 fun bq123 oq124 => ldI .u32 (rd Hx119 bq123 (oq124 + k122)) fun x125 => bc ((decide (¬ x125 = x114))) (IDX i118 rl60 fun k126 => NIL rp59 fun bq127 oq128 => ldI .u32 (rd Hx119 bq127 (oq128 + k126)) fun x129 => NEW Hx119 ([.int .u32 x129]) fun bq130 Hx131 => APP Hx131 te_uint32 mp115 ml116 mc117 (.slice (some ⟨bq130, 0, none⟩) 1 1) fun xp132 xl133 xc134 Hx135 => CHK .i64 (i118 + (1 : Int)) fun x136 => Iq120 xp132 xl133 xc134 x136 Hx135 ∧ mu121 xp132 xl133 xc134 x136 Hx135 < mu121 mp115 ml116 mc117 i118 Hx119) (CHK .i64 (i118 + (1 : Int)) fun x141 => Iq120 mp115 ml116 mc117 x141 Hx119 ∧ mu121 mp115 ml116 mc117 x141 Hx119 < mu121 mp115 ml116 mc117 i118 Hx119)) (centoref12_Has.C idsp4 idsl5 idsc6 x114 Hx119 fun r146 Hx147 => bc (r146) (K true Hx147) (store_Store_Closed.C r19 mp115 ml116 mc117 Hx147 fun r153 Hx154 => bc ((!r153)) (K true Hx154) (store_Store_Users.C r19 rp59 rl60 rc61 x114 Hx154 fun _ rl161 _ Hx163 => K (decide ((0 : Int) < ((rl161 : Nat) : Int))) Hx163))))
def centolaw17_StoreNeeds.k2 (K : Bool → Hp → Prop) (drop7 : Int) (idsc6 : Nat) (idsl5 : Nat) (idsp4 : Option Addr) (r19 : Option Addr) (rc61 : Nat) (rl60 : Nat) (rp59 : Option Addr) (t105 : Bool) (Hx106 : Hp) : Prop :=
  bc (t105) (bc ((decide (((rl60 : Nat) : Int) = (0 : Int)))) (K (decide (((idsl5 : Nat) : Int) = (0 : Int))) Hx106) (K false Hx106)) (centolaw17_StoreNeeds.k3 K drop7 idsc6 idsl5 idsp4 r19 rc61 rl60 rp59 Hx106)
def centolaw17_StoreNeeds.k1 (K : Bool → Hp → Prop) (drop7 : Int) (idsc6 : Nat) (idsl5 : Nat) (idsp4 : Option Addr) (ll2 : Nat) (lp1 : Option Addr) (Hx18 : Hp) : Prop :=
  store_New.C  Hx18 fun r19 Hx20 => ∃ (Iq23 : Int → Hp → Prop) (mu24 : Int → Hp → Nat), Iq23 (0 : Int) Hx20 ∧ ∀ (i21 : Int) (Hx22 : Hp), Iq23 i21 Hx22 → bc ((decide (i21 < ((ll2 : Nat) : Int)))) (IDX i21 ll2 fun k25 => NIL lp1 fun bq26 oq27 => ldI .u32 (rd Hx22 bq26 (oq27 + (k25 * 5))) fun x28 => ldL (rd Hx22 bq26 ((oq27 + (k25 * 5)) + 1)) fun xp29 xl30 xc31 => ldL (rd Hx22 bq26 (((oq27 + (k25 * 5)) + 1) + 1)) fun xp32 xl33 xc34 => ldL (rd Hx22 bq26 ((((oq27 + (k25 * 5)) + 1) + 1) + 1)) fun xp35 xl36 xc37 => ldL (rd Hx22 bq26 (((((oq27 + (k25 * 5)) + 1) + 1) + 1) + 1)) fun xp38 xl39 xc40 => store_Store_Add.C r19 x28 xp29 xl30 xc31 xp32 xl33 xc34 xp35 xl36 xc37 xp38 xl39 xc40 Hx22 fun _ Hx42 => CHK .i64 (i21 + (1 : Int)) fun x57 => Iq23 x57 Hx42 ∧ mu24 x57 Hx42 < mu24 i21 Hx22) (store_Store_Need.C r19 idsp4 idsl5 idsc6 Hx22 fun rp59 rl60 rc61 r62 Hx63 => store_Store_IDs.C r19 Hx63 fun rp68 rl69 rc70 Hx71 => store_Store_Closed.C r19 rp68 rl69 rc70 Hx71 fun r73 Hx74 => bc ((!r73)) (K false Hx74) (bc ((decide (¬ r62 = (0 : Int)))) (bc ((decide (r62 = (15 : Int)))) (K (decide (((rl60 : Nat) : Int) = (0 : Int))) Hx74) (K false Hx74)) (∃ (Iq84 : Int → Hp → Prop) (mu85 : Int → Hp → Nat), Iq84 (0 : Int) Hx74 ∧ ∀ (i82 : Int) (Hx83 : Hp), Iq84 i82 Hx83 → bc ((decide (i82 < ((idsl5 : Nat) : Int)))) (IDX i82 idsl5 fun k86 => NIL idsp4 fun bq87 oq88 => ldI .u32 (rd Hx83 bq87 (oq88 + k86)) fun x89 => centoref12_Has.C rp59 rl60 rc61 x89 Hx83 fun r90 Hx91 => bc ((!r90)) (K false Hx91) (CHK .i64 (i82 + (1 : Int)) fun x97 => Iq84 x97 Hx91 ∧ mu85 x97 Hx91 < mu85 i82 Hx83)) (store_Store_Closed.C r19 rp59 rl60 rc61 Hx83 fun r99 Hx100 => bc ((!r99)) (centolaw17_StoreNeeds.k2 K drop7 idsc6 idsl5 idsp4 r19 rc61 rl60 rp59 true Hx100) (centolaw17_StoreNeeds.k2 K drop7 idsc6 idsl5 idsp4 r19 rc61 rl60 rp59 (decide (((rl60 : Nat) : Int) = (0 : Int))) Hx100)))))
def centolaw17_StoreNeeds.F (lp1 : Option Addr) (ll2 : Nat) (lc3 : Nat) (idsp4 : Option Addr) (idsl5 : Nat) (idsc6 : Nat) (drop7 : Int) (H : Hp) (K : Bool → Hp → Prop) : Prop :=
  centolaw17_known.C  H fun r8 Hx9 => bc ((!r8)) (K false Hx9) (centolaw17_fewAll.C lp1 ll2 lc3 Hx9 fun r11 Hx12 => bc ((!r11)) (K true Hx12) (bc ((decide ((40 : Int) < ((idsl5 : Nat) : Int)))) (K true Hx12) (centolaw17_StoreNeeds.k1 K drop7 idsc6 idsl5 idsp4 ll2 lp1 Hx12)))
theorem centolaw17_StoreNeeds.vc (lp1 : Option Addr) (ll2 : Nat) (lc3 : Nat) (idsp4 : Option Addr) (idsl5 : Nat) (idsc6 : Nat) (drop7 : Int) (H : Hp) (K : Bool → Hp → Prop) : vcFun prog tab centolaw17_StoreNeeds.ann none Try.f3 (List.map AV.v [.slice lp1 ll2 lc3, .slice idsp4 idsl5 idsc6, .int .u8 drop7]) H (fun v H2 _ => liftB v fun r172 => K r172 H2) = centolaw17_StoreNeeds.F lp1 ll2 lc3 idsp4 idsl5 idsc6 drop7 H K := by kernel_rfl
theorem centolaw17_StoreNeeds.of (lp1 : Option Addr) (ll2 : Nat) (lc3 : Nat) (idsp4 : Option Addr) (idsl5 : Nat) (idsc6 : Nat) (drop7 : Int) {H : Hp} {K : Bool → Hp → Prop} (h : centolaw17_StoreNeeds.F lp1 ll2 lc3 idsp4 idsl5 idsc6 drop7 H K) : centolaw17_StoreNeeds.C lp1 ll2 lc3 idsp4 idsl5 idsc6 drop7 H K := CallH_of_vc mix tabOk Try.func3 (by kernel_rfl) ((centolaw17_StoreNeeds.vc lp1 ll2 lc3 idsp4 idsl5 idsc6 drop7 H K).mpr h)
-- cento/centolaw17.StoreChains (4)
def centolaw17_StoreChains.ann : Ann := { loops := [(0, [(7, .one (.int .i64))])], pars := [] }
def centolaw17_StoreChains.k1 (Hx11 : Hp) (Iq12 : Int → Hp → Prop) (K : Bool → Hp → Prop) (bq14 : Nat) (i10 : Int) (mu13 : Int → Hp → Nat) (r8 : Option Addr) (Hx25 : Hp) : Prop :=
  ldI .u32 (rd Hx25 bq14 0) fun x26 => ldL (rd Hx25 bq14 1) fun xp27 xl28 xc29 => ldL (rd Hx25 bq14 2) fun xp30 xl31 xc32 => ldL (rd Hx25 bq14 3) fun xp33 xl34 xc35 => ldL (rd Hx25 bq14 4) fun xp36 xl37 xc38 => store_Store_Add.C r8 x26 xp27 xl28 xc29 xp30 xl31 xc32 xp33 xl34 xc35 xp36 xl37 xc38 Hx25 fun r39 Hx40 => bc ((decide (¬ r39 = (0 : Int)))) (K false Hx40) (CHK .i64 (i10 + (1 : Int)) fun x56 => Iq12 x56 Hx40 ∧ mu13 x56 Hx40 < mu13 i10 Hx11)
def centolaw17_StoreChains.k2 (K : Bool → Hp → Prop) (r8 : Option Addr) (rc64 : Nat) (rl63 : Nat) (rl77 : Nat) (rp62 : Option Addr) (rp76 : Option Addr) (x59 : Int) (x7 : Int) (Hx88 : Hp) : Prop :=
  CHK .i64 x59 fun x89 => bc ((decide (x89 = x7))) (K (decide (((rl77 : Nat) : Int) = (0 : Int))) Hx88) (bc ((decide (((rl77 : Nat) : Int) = (1 : Int)))) (IDX (0 : Int) rl77 fun k91 => NIL rp76 fun bq92 oq93 => ldI .u32 (rd Hx88 bq92 (oq93 + k91)) fun x94 => CHK .u32 (x59 + (1 : Int)) fun x95 => bc ((decide (x94 = x95))) (store_Store_Closed.C r8 rp62 rl63 rc64 Hx88 fun r96 Hx97 => bc (r96) (CHK .u32 (x59 + (1 : Int)) fun x102 => NEW Hx97 ([.int .u32 x102]) fun bq103 Hx104 => store_Store_Closed.C r8 (some ⟨bq103, 0, none⟩) 1 1 Hx104 fun r105 Hx106 => K (!r105) Hx106) (K false Hx97)) (K false Hx88)) (K false Hx88))
def centolaw17_StoreChains.F (n1 : Int) (atq2 : Int) (H : Hp) (K : Bool → Hp → Prop) : Prop :=
  centolaw17_known.C  H fun r3 Hx4 => bc ((!r3)) (K false Hx4) (¬ (20 : Int) = 0 ∧ (CHK .i64 (Int.tmod n1 (20 : Int)) fun x6 => CHK .i64 (x6 + (1 : Int)) fun x7 => store_New.C  Hx4 fun r8 Hx9 => ∃ (Iq12 : Int → Hp → Prop) (mu13 : Int → Hp → Nat), Iq12 (1 : Int) Hx9 ∧ ∀ (i10 : Int) (Hx11 : Hp), Iq12 i10 Hx11 → bc ((decide (i10 ≤ x7))) (NEW Hx11 [.int .u32 (0 : Int), .slice none 0 0, .slice none 0 0, .slice none 0 0, .slice none 0 0] fun bq14 Hx15 => ST Hx15 bq14 0 (.int .u32 (IntKind.wrap .u32 i10)) fun Hx16 => ST Hx16 bq14 1 (.slice none 0 0) fun Hx17 => ST Hx17 bq14 2 (.slice none 0 0) fun Hx18 => ST Hx18 bq14 3 (.slice none 0 0) fun Hx19 => ST Hx19 bq14 4 (.slice none 0 0) fun Hx20 => bc ((decide ((1 : Int) < i10))) (CHK .i64 (i10 - (1 : Int)) fun x21 => NEW Hx20 ([.int .u32 (IntKind.wrap .u32 x21)]) fun bq22 Hx23 => ST Hx23 bq14 1 (.slice (some ⟨bq22, 0, none⟩) 1 1) fun Hx24 => centolaw17_StoreChains.k1 Hx11 Iq12 K bq14 i10 mu13 r8 Hx24) (centolaw17_StoreChains.k1 Hx11 Iq12 K bq14 i10 mu13 r8 Hx20)) (CHK .i64 atq2 fun x58 => ¬ x7 = 0 ∧ (CHK .u32 ((IntKind.wrap .u32 (Int.tmod x58 x7)) + (1 : Int)) fun x59 => NEW Hx11 ([.int .u32 x59]) fun bq60 Hx61 => store_Store_Need.C r8 (some ⟨bq60, 0, none⟩) 1 1 Hx61 fun rp62 rl63 rc64 r65 Hx66 => store_Store_IDs.C r8 Hx66 fun rp71 rl72 rc73 Hx74 => store_Store_Users.C r8 rp71 rl72 rc73 x59 Hx74 fun rp76 rl77 _ Hx79 => bc ((decide (¬ r65 = (0 : Int)))) (K false Hx79) (CHK .i64 x59 fun x86 => bc ((decide (¬ ((rl63 : Nat) : Int) = x86))) (K false Hx79) (centolaw17_StoreChains.k2 K r8 rc64 rl63 rl77 rp62 rp76 x59 x7 Hx79))))))
theorem centolaw17_StoreChains.vc (n1 : Int) (atq2 : Int) (H : Hp) (K : Bool → Hp → Prop) : vcFun prog tab centolaw17_StoreChains.ann none Try.f4 (List.map AV.v [.int .u8 n1, .int .u8 atq2]) H (fun v H2 _ => liftB v fun r115 => K r115 H2) = centolaw17_StoreChains.F n1 atq2 H K := by kernel_rfl
theorem centolaw17_StoreChains.of (n1 : Int) (atq2 : Int) {H : Hp} {K : Bool → Hp → Prop} (h : centolaw17_StoreChains.F n1 atq2 H K) : centolaw17_StoreChains.C n1 atq2 H K := CallH_of_vc mix tabOk Try.func4 (by kernel_rfl) ((centolaw17_StoreChains.vc n1 atq2 H K).mpr h)
-- cento/centolaw17.StoreFull (5)
def centolaw17_StoreFull.ann : Ann := { loops := [(0, [(4, .one (.int .i64))])], pars := [] }
def centolaw17_StoreFull.F (n1 : Int) (H : Hp) (K : Bool → Hp → Prop) : Prop :=
  centolaw17_known.C  H fun r2 Hx3 => bc ((!r2)) (K false Hx3) (store_New.C  Hx3 fun r5 Hx6 => ∃ (Iq9 : Int → Hp → Prop) (mu10 : Int → Hp → Nat), Iq9 (1 : Int) Hx6 ∧ ∀ (i7 : Int) (Hx8 : Hp), Iq9 i7 Hx8 → bc ((decide (i7 ≤ (60 : Int)))) (CHK .u32 ((IntKind.wrap .u32 i7) * (3 : Int)) fun x11 => store_Store_Add.C r5 x11 none 0 0 none 0 0 none 0 0 none 0 0 Hx8 fun r12 Hx13 => bc ((decide (¬ r12 = (0 : Int)))) (K false Hx13) (CHK .i64 (i7 + (1 : Int)) fun x29 => Iq9 x29 Hx13 ∧ mu10 x29 Hx13 < mu10 i7 Hx8)) (CHK .i64 n1 fun x31 => ¬ (60 : Int) = 0 ∧ (CHK .u32 ((IntKind.wrap .u32 (Int.tmod x31 (60 : Int))) + (1 : Int)) fun x32 => store_Store_Add.C r5 (1000 : Int) none 0 0 none 0 0 none 0 0 none 0 0 Hx8 fun r33 Hx34 => bc ((decide (r33 = (11 : Int)))) (CHK .u32 (x32 * (3 : Int)) fun x49 => store_Store_Add.C r5 x49 none 0 0 none 0 0 none 0 0 none 0 0 Hx34 fun r50 Hx51 => bc ((decide (r50 = (0 : Int)))) (CHK .u32 (x32 * (3 : Int)) fun x66 => NEW Hx51 ([.string (bs [97])]) fun bq67 Hx68 => store_Store_Add.C r5 x66 none 0 0 (some ⟨bq67, 0, none⟩) 1 1 none 0 0 none 0 0 Hx68 fun r69 Hx70 => bc ((decide (r69 = (16 : Int)))) (store_Store_IDs.C r5 Hx70 fun _ rl86 _ Hx88 => bc ((decide (((rl86 : Nat) : Int) = (60 : Int)))) (NEW Hx88 ([.int .u32 (1 : Int)]) fun bq90 Hx91 => store_Store_Add.C r5 (1000 : Int) (some ⟨bq90, 0, none⟩) 1 1 none 0 0 none 0 0 none 0 0 Hx91 fun r92 Hx93 => K (decide (r92 = (17 : Int))) Hx93) (K false Hx88)) (K false Hx70)) (K false Hx51)) (K false Hx34))))
theorem centolaw17_StoreFull.vc (n1 : Int) (H : Hp) (K : Bool → Hp → Prop) : vcFun prog tab centolaw17_StoreFull.ann none Try.f5 (List.map AV.v [.int .u8 n1]) H (fun v H2 _ => liftB v fun r113 => K r113 H2) = centolaw17_StoreFull.F n1 H K := by kernel_rfl
theorem centolaw17_StoreFull.of (n1 : Int) {H : Hp} {K : Bool → Hp → Prop} (h : centolaw17_StoreFull.F n1 H K) : centolaw17_StoreFull.C n1 H K := CallH_of_vc mix tabOk Try.func5 (by kernel_rfl) ((centolaw17_StoreFull.vc n1 H K).mpr h)
-- cento/centolaw17.known (6)
def centolaw17_known.ann : Ann := { loops := [], pars := [] }
def centolaw17_known.k1 (K : Bool → Hp → Prop) (r1 : Option Addr) (Hx146 : Hp) : Prop :=
  NEW Hx146 ([.int .u32 (2 : Int)]) fun bq147 Hx148 => store_Store_Need.C r1 (some ⟨bq147, 0, none⟩) 1 1 Hx148 fun _ rl150 _ r152 Hx153 => NEW Hx153 ([.int .u32 (3 : Int)]) fun bq158 Hx159 => store_Store_Need.C r1 (some ⟨bq158, 0, none⟩) 1 1 Hx159 fun _ _ _ r163 Hx164 => NEW Hx164 ([.int .u32 (2 : Int)]) fun bq169 Hx170 => store_Store_List.C r1 (some ⟨bq169, 0, none⟩) 1 1 Hx170 fun _ rl172 _ r174 Hx175 => NEW Hx175 ([.int .u32 (1 : Int), .int .u32 (2 : Int)]) fun bq180 Hx181 => store_Store_Users.C r1 (some ⟨bq180, 0, none⟩) 2 2 (1 : Int) Hx181 fun rp182 rl183 _ Hx185 => store_Store_Get.C r1 (2 : Int) Hx185 fun r191 rp192 rl193 rc194 rp195 rl196 rc197 rp198 rl199 rc200 rp201 rl202 rc203 r204 Hx205 => NEW Hx205 [.int .u32 (0 : Int), .slice none 0 0, .slice none 0 0, .slice none 0 0, .slice none 0 0] fun bq208 Hx209 => ST Hx209 bq208 0 (.int .u32 r191) fun Hx210 => ST Hx210 bq208 1 (.slice rp192 rl193 rc194) fun Hx211 => ST Hx211 bq208 2 (.slice rp195 rl196 rc197) fun Hx212 => ST Hx212 bq208 3 (.slice rp198 rl199 rc200) fun Hx213 => ST Hx213 bq208 4 (.slice rp201 rl202 rc203) fun Hx214 => bc ((decide (r152 = (0 : Int)))) (bc ((decide (((rl150 : Nat) : Int) = (2 : Int)))) (bc ((decide (r163 = (15 : Int)))) (bc ((decide (r174 = (0 : Int)))) (bc ((decide (((rl172 : Nat) : Int) = (1 : Int)))) (bc ((decide (((rl183 : Nat) : Int) = (1 : Int)))) (IDX (0 : Int) rl183 fun k215 => NIL rp182 fun bq216 oq217 => ldI .u32 (rd Hx214 bq216 (oq217 + k215)) fun x218 => bc ((decide (x218 = (2 : Int)))) (bc (r204) (ldI .u32 (rd Hx214 bq208 0) fun x219 => bc ((decide (x219 = (2 : Int)))) (store_Store_IDs.C r1 Hx214 fun _ rl221 _ Hx223 => bc ((decide (((rl221 : Nat) : Int) = (2 : Int)))) (NEW Hx223 ([.int .u32 (2 : Int), .int .u32 (1 : Int)]) fun bq225 Hx226 => store_Store_Closed.C r1 (some ⟨bq225, 0, none⟩) 2 2 Hx226 fun r227 Hx228 => bc (r227) (NEW Hx228 ([.int .u32 (2 : Int)]) fun bq233 Hx234 => store_Store_Closed.C r1 (some ⟨bq233, 0, none⟩) 1 1 Hx234 fun r235 Hx236 => K (!r235) Hx236) (K false Hx228)) (K false Hx223)) (K false Hx214)) (K false Hx214)) (K false Hx214)) (K false Hx214)) (K false Hx214)) (K false Hx214)) (K false Hx214)) (K false Hx214)) (K false Hx214)
def centolaw17_known.F  (H : Hp) (K : Bool → Hp → Prop) : Prop :=
  store_New.C  H fun r1 Hx2 => NEW Hx2 ([.int .u32 (1 : Int)]) fun bq3 Hx4 => NEW Hx4 [.int .u32 (0 : Int), .slice none 0 0, .slice none 0 0, .slice none 0 0, .slice none 0 0] fun bq5 Hx6 => NEW Hx6 [.int .u32 (0 : Int), .slice none 0 0, .slice none 0 0, .slice none 0 0, .slice none 0 0] fun bq7 Hx8 => ST Hx8 bq5 0 (.int .u32 (1 : Int)) fun Hx9 => ST Hx9 bq5 1 (.slice none 0 0) fun Hx10 => ST Hx10 bq5 2 (.slice none 0 0) fun Hx11 => ST Hx11 bq5 3 (.slice none 0 0) fun Hx12 => ST Hx12 bq5 4 (.slice none 0 0) fun Hx13 => ST Hx13 bq7 0 (.int .u32 (2 : Int)) fun Hx14 => ST Hx14 bq7 1 (.slice (some ⟨bq3, 0, none⟩) 1 1) fun Hx15 => ST Hx15 bq7 2 (.slice none 0 0) fun Hx16 => ST Hx16 bq7 3 (.slice none 0 0) fun Hx17 => ST Hx17 bq7 4 (.slice none 0 0) fun Hx18 => bc ((decide (r1 = none))) (K false Hx18) (ldI .u32 (rd Hx18 bq7 0) fun x20 => ldL (rd Hx18 bq7 1) fun xp21 xl22 xc23 => ldL (rd Hx18 bq7 2) fun xp24 xl25 xc26 => ldL (rd Hx18 bq7 3) fun xp27 xl28 xc29 => ldL (rd Hx18 bq7 4) fun xp30 xl31 xc32 => store_Store_Add.C r1 x20 xp21 xl22 xc23 xp24 xl25 xc26 xp27 xl28 xc29 xp30 xl31 xc32 Hx18 fun r33 Hx34 => bc ((decide (¬ r33 = (17 : Int)))) (K false Hx34) (ldI .u32 (rd Hx34 bq5 0) fun x50 => ldL (rd Hx34 bq5 1) fun xp51 xl52 xc53 => ldL (rd Hx34 bq5 2) fun xp54 xl55 xc56 => ldL (rd Hx34 bq5 3) fun xp57 xl58 xc59 => ldL (rd Hx34 bq5 4) fun xp60 xl61 xc62 => store_Store_Add.C r1 x50 xp51 xl52 xc53 xp54 xl55 xc56 xp57 xl58 xc59 xp60 xl61 xc62 Hx34 fun r63 Hx64 => bc ((decide (¬ r63 = (0 : Int)))) (K false Hx64) (ldI .u32 (rd Hx64 bq7 0) fun x80 => ldL (rd Hx64 bq7 1) fun xp81 xl82 xc83 => ldL (rd Hx64 bq7 2) fun xp84 xl85 xc86 => ldL (rd Hx64 bq7 3) fun xp87 xl88 xc89 => ldL (rd Hx64 bq7 4) fun xp90 xl91 xc92 => store_Store_Add.C r1 x80 xp81 xl82 xc83 xp84 xl85 xc86 xp87 xl88 xc89 xp90 xl91 xc92 Hx64 fun r93 Hx94 => bc ((decide (¬ r93 = (0 : Int)))) (K false Hx94) (NEW Hx94 ([.string (bs [97])]) fun bq110 Hx111 => store_Store_Add.C r1 (1 : Int) none 0 0 (some ⟨bq110, 0, none⟩) 1 1 none 0 0 none 0 0 Hx111 fun r112 Hx113 => bc ((decide (¬ r112 = (16 : Int)))) (K false Hx113) (store_Store_Add.C r1 (0 : Int) none 0 0 none 0 0 none 0 0 none 0 0 Hx113 fun r129 Hx130 => bc ((decide (¬ r129 = (10 : Int)))) (K false Hx130) (centolaw17_known.k1 K r1 Hx130))))))
theorem centolaw17_known.vc  (H : Hp) (K : Bool → Hp → Prop) : vcFun prog tab centolaw17_known.ann none Try.f6 (List.map AV.v []) H (fun v H2 _ => liftB v fun r253 => K r253 H2) = centolaw17_known.F  H K := by kernel_rfl
theorem centolaw17_known.of  {H : Hp} {K : Bool → Hp → Prop} (h : centolaw17_known.F  H K) : centolaw17_known.C  H K := CallH_of_vc mix tabOk Try.func6 (by kernel_rfl) ((centolaw17_known.vc  H K).mpr h)
-- cento/centolaw17.fewAll (7)
def centolaw17_fewAll.ann : Ann := { loops := [(0, [(3, .one (.int .i64))])], pars := [] }
def centolaw17_fewAll.F (lp1 : Option Addr) (ll2 : Nat) (_lc3 : Nat) (H : Hp) (K : Bool → Hp → Prop) : Prop :=
  ∃ (Iq6 : Int → Hp → Prop) (mu7 : Int → Hp → Nat), Iq6 (0 : Int) H ∧ ∀ (i4 : Int) (Hx5 : Hp), Iq6 i4 Hx5 → bc ((decide (i4 < ((ll2 : Nat) : Int)))) (IDX i4 ll2 fun k8 => NIL lp1 fun bq9 oq10 => ldI .u32 (rd Hx5 bq9 (oq10 + (k8 * 5))) fun x11 => ldL (rd Hx5 bq9 ((oq10 + (k8 * 5)) + 1)) fun xp12 xl13 xc14 => ldL (rd Hx5 bq9 (((oq10 + (k8 * 5)) + 1) + 1)) fun xp15 xl16 xc17 => ldL (rd Hx5 bq9 ((((oq10 + (k8 * 5)) + 1) + 1) + 1)) fun xp18 xl19 xc20 => ldL (rd Hx5 bq9 (((((oq10 + (k8 * 5)) + 1) + 1) + 1) + 1)) fun xp21 xl22 xc23 => centolaw17_few.C x11 xp12 xl13 xc14 xp15 xl16 xc17 xp18 xl19 xc20 xp21 xl22 xc23 Hx5 fun r24 Hx25 => bc ((!r24)) (K false Hx25) (CHK .i64 (i4 + (1 : Int)) fun x40 => Iq6 x40 Hx25 ∧ mu7 x40 Hx25 < mu7 i4 Hx5)) (K (decide (((ll2 : Nat) : Int) ≤ (16 : Int))) Hx5)
theorem centolaw17_fewAll.vc (lp1 : Option Addr) (ll2 : Nat) (lc3 : Nat) (H : Hp) (K : Bool → Hp → Prop) : vcFun prog tab centolaw17_fewAll.ann none Try.f7 (List.map AV.v [.slice lp1 ll2 lc3]) H (fun v H2 _ => liftB v fun r43 => K r43 H2) = centolaw17_fewAll.F lp1 ll2 lc3 H K := by kernel_rfl
theorem centolaw17_fewAll.of (lp1 : Option Addr) (ll2 : Nat) (lc3 : Nat) {H : Hp} {K : Bool → Hp → Prop} (h : centolaw17_fewAll.F lp1 ll2 lc3 H K) : centolaw17_fewAll.C lp1 ll2 lc3 H K := CallH_of_vc mix tabOk Try.func7 (by kernel_rfl) ((centolaw17_fewAll.vc lp1 ll2 lc3 H K).mpr h)
-- cento/store.New (8)
def store_New.ann : Ann := { loops := [], pars := [] }
def store_New.F  (H : Hp) (K : Option Addr → Hp → Prop) : Prop :=
  NEW H (mapV [] 0) fun bq1 Hx2 => NEW Hx2 [.map (some bq1)] fun bq3 Hx4 => K (some ⟨bq3, 0, none⟩) Hx4
theorem store_New.vc  (H : Hp) (K : Option Addr → Hp → Prop) : vcFun prog tab store_New.ann none Try.f8 (List.map AV.v []) H (fun v H2 _ => liftP v fun r6 => K r6 H2) = store_New.F  H K := by kernel_rfl
theorem store_New.of  {H : Hp} {K : Option Addr → Hp → Prop} (h : store_New.F  H K) : store_New.C  H K := CallH_of_vc mix tabOk Try.func8 (by kernel_rfl) ((store_New.vc  H K).mpr h)
-- (*cento/store.Store).Add (9)
def store_Store_Add.ann : Ann := { loops := [], pars := [] }
def store_Store_Add.k2 (K : Int → Hp → Prop) (bq15 : Nat) (s1 : Option Addr) (Hx130 : Hp) : Prop :=
  ldL (rd Hx130 bq15 1) fun xp131 xl132 xc133 => store_Store_has.C s1 xp131 xl132 xc133 Hx130 fun r134 Hx135 => bc ((!r134)) (K (17 : Int) Hx135) (NIL s1 fun bq141 oq142 => ldM (rd Hx135 bq141 oq142) fun x143 => BLT prog .len [49] 3 [.map x143] Hx135 fun v Hx145 => liftI .i64 v fun x144 => bc ((decide ((60 : Int) ≤ x144))) (K (11 : Int) Hx145) (NIL s1 fun bq147 oq148 => ldM (rd Hx145 bq147 oq148) fun x149 => ldI .u32 (rd Hx145 bq15 0) fun x150 => ldI .u32 (rd Hx145 bq15 0) fun x151 => ldL (rd Hx145 bq15 1) fun xp152 xl153 xc154 => ldL (rd Hx145 bq15 2) fun xp155 xl156 xc157 => ldL (rd Hx145 bq15 3) fun xp158 xl159 xc160 => ldL (rd Hx145 bq15 4) fun xp161 xl162 xc163 => patch_Copy.C x151 xp152 xl153 xc154 xp155 xl156 xc157 xp158 xl159 xc160 xp161 xl162 xc163 Hx145 fun r164 rp165 rl166 rc167 rp168 rl169 rc170 rp171 rl172 rc173 rp174 rl175 rc176 Hx177 => rd Hx177 bq15 0 = some (.int .u32 x150) ∧ (rd Hx177 bq147 oq148 = some (.map x149) ∧ (MUP prog 49 x149 (.int .u32 x150) (.agg ⟨[.int .u32 r164, .slice rp165 rl166 rc167, .slice rp168 rl169 rc170, .slice rp171 rl172 rc173, .slice rp174 rl175 rc176]⟩) Hx177 fun Hx191 => K (0 : Int) Hx191))))
def store_Store_Add.k1 (K : Int → Hp → Prop) (bq15 : Nat) (s1 : Option Addr) (old71 : Nat) (isq72 : Bool) (Hx73 : Hp) : Prop :=
  bc (isq72) (ldI .u32 (rd Hx73 old71 0) fun x74 => ldL (rd Hx73 old71 1) fun xp75 xl76 xc77 => ldL (rd Hx73 old71 2) fun xp78 xl79 xc80 => ldL (rd Hx73 old71 3) fun xp81 xl82 xc83 => ldL (rd Hx73 old71 4) fun xp84 xl85 xc86 => ldI .u32 (rd Hx73 bq15 0) fun x87 => ldL (rd Hx73 bq15 1) fun xp88 xl89 xc90 => ldL (rd Hx73 bq15 2) fun xp91 xl92 xc93 => ldL (rd Hx73 bq15 3) fun xp94 xl95 xc96 => ldL (rd Hx73 bq15 4) fun xp97 xl98 xc99 => patch_Same.C x74 xp75 xl76 xc77 xp78 xl79 xc80 xp81 xl82 xc83 xp84 xl85 xc86 x87 xp88 xl89 xc90 xp91 xl92 xc93 xp94 xl95 xc96 xp97 xl98 xc99 Hx73 fun r100 Hx101 => bc (r100) (K (0 : Int) Hx101) (K (16 : Int) Hx101)) (store_Store_Add.k2 K bq15 s1 Hx73)
def store_Store_Add.F (s1 : Option Addr) (p2 : Int) (pp3 : Option Addr) (pl4 : Nat) (pc5 : Nat) (pp6 : Option Addr) (pl7 : Nat) (pc8 : Nat) (pp9 : Option Addr) (pl10 : Nat) (pc11 : Nat) (pp12 : Option Addr) (pl13 : Nat) (pc14 : Nat) (H : Hp) (K : Int → Hp → Prop) : Prop :=
  NEW H [.int .u32 p2, .slice pp3 pl4 pc5, .slice pp6 pl7 pc8, .slice pp9 pl10 pc11, .slice pp12 pl13 pc14] fun bq15 Hx16 => ldI .u32 (rd Hx16 bq15 0) fun x17 => ldL (rd Hx16 bq15 1) fun xp18 xl19 xc20 => ldL (rd Hx16 bq15 2) fun xp21 xl22 xc23 => ldL (rd Hx16 bq15 3) fun xp24 xl25 xc26 => ldL (rd Hx16 bq15 4) fun xp27 xl28 xc29 => patch_Is.C x17 xp18 xl19 xc20 xp21 xl22 xc23 xp24 xl25 xc26 xp27 xl28 xc29 Hx16 fun r30 Hx31 => bc ((!r30)) (K (10 : Int) Hx31) (NIL s1 fun bq46 oq47 => ldM (rd Hx31 bq46 oq47) fun x48 => ldI .u32 (rd Hx31 bq15 0) fun x49 => (LKP prog 49 x48 (.int .u32 x49) true Hx31 fun v => tupV v fun vs => d2 vs fun wv0 wv1 => aggV wv0 fun cs => d5 cs fun wwv00 wwv01 wwv02 wwv03 wwv04 => liftI .u32 wwv00 fun x50 => liftL wwv01 fun xp51 xl52 xc53 => liftL wwv02 fun xp54 xl55 xc56 => liftL wwv03 fun xp57 xl58 xc59 => liftL wwv04 fun xp60 xl61 xc62 => liftB wv1 fun x63 => NEW Hx31 [.int .u32 (0 : Int), .slice none 0 0, .slice none 0 0, .slice none 0 0, .slice none 0 0] fun bq64 Hx65 => ST Hx65 bq64 0 (.int .u32 x50) fun Hx66 => ST Hx66 bq64 1 (.slice xp51 xl52 xc53) fun Hx67 => ST Hx67 bq64 2 (.slice xp54 xl55 xc56) fun Hx68 => ST Hx68 bq64 3 (.slice xp57 xl58 xc59) fun Hx69 => ST Hx69 bq64 4 (.slice xp60 xl61 xc62) fun Hx70 => store_Store_Add.k1 K bq15 s1 bq64 x63 Hx70) ∧ (NEW Hx31 [.int .u32 (0 : Int), .slice none 0 0, .slice none 0 0, .slice none 0 0, .slice none 0 0] fun bq195 Hx196 => rd Hx196 bq15 0 = some (.int .u32 x49) ∧ (rd Hx196 bq46 oq47 = some (.map x48) ∧ (LKP prog 49 x48 (.int .u32 x49) true Hx196 fun v => tupV v fun vs => d2 vs fun wv0 wv1 => aggV wv0 fun cs => d5 cs fun wwv00 wwv01 wwv02 wwv03 wwv04 => liftI .u32 wwv00 fun x197 => liftL wwv01 fun xp198 xl199 xc200 => liftL wwv02 fun xp201 xl202 xc203 => liftL wwv03 fun xp204 xl205 xc206 => liftL wwv04 fun xp207 xl208 xc209 => liftB wv1 fun x210 => ST Hx196 bq195 0 (.int .u32 x197) fun Hx211 => ST Hx211 bq195 1 (.slice xp198 xl199 xc200) fun Hx212 => ST Hx212 bq195 2 (.slice xp201 xl202 xc203) fun Hx213 => ST Hx213 bq195 3 (.slice xp204 xl205 xc206) fun Hx214 => ST Hx214 bq195 4 (.slice xp207 xl208 xc209) fun Hx215 => store_Store_Add.k1 K bq15 s1 bq195 x210 Hx215))))
theorem store_Store_Add.vc (s1 : Option Addr) (p2 : Int) (pp3 : Option Addr) (pl4 : Nat) (pc5 : Nat) (pp6 : Option Addr) (pl7 : Nat) (pc8 : Nat) (pp9 : Option Addr) (pl10 : Nat) (pc11 : Nat) (pp12 : Option Addr) (pl13 : Nat) (pc14 : Nat) (H : Hp) (K : Int → Hp → Prop) : vcFun prog tab store_Store_Add.ann none Try.f9 (List.map AV.v [.pointer s1, .agg ⟨[.int .u32 p2, .slice pp3 pl4 pc5, .slice pp6 pl7 pc8, .slice pp9 pl10 pc11, .slice pp12 pl13 pc14]⟩]) H (fun v H2 _ => liftI .i64 v fun r218 => K r218 H2) = store_Store_Add.F s1 p2 pp3 pl4 pc5 pp6 pl7 pc8 pp9 pl10 pc11 pp12 pl13 pc14 H K := by kernel_rfl
theorem store_Store_Add.of (s1 : Option Addr) (p2 : Int) (pp3 : Option Addr) (pl4 : Nat) (pc5 : Nat) (pp6 : Option Addr) (pl7 : Nat) (pc8 : Nat) (pp9 : Option Addr) (pl10 : Nat) (pc11 : Nat) (pp12 : Option Addr) (pl13 : Nat) (pc14 : Nat) {H : Hp} {K : Int → Hp → Prop} (h : store_Store_Add.F s1 p2 pp3 pl4 pc5 pp6 pl7 pc8 pp9 pl10 pc11 pp12 pl13 pc14 H K) : store_Store_Add.C s1 p2 pp3 pl4 pc5 pp6 pl7 pc8 pp9 pl10 pc11 pp12 pl13 pc14 H K := CallH_of_vc mix tabOk Try.func9 (by kernel_rfl) ((store_Store_Add.vc s1 p2 pp3 pl4 pc5 pp6 pl7 pc8 pp9 pl10 pc11 pp12 pl13 pc14 H K).mpr h)
-- (*cento/store.Store).Need (10)
def store_Store_Need.ann : Ann := { loops := [], pars := [(15, .one (.int .u32))] }
def store_Store_Need.F (s1 : Option Addr) (idsp2 : Option Addr) (idsl3 : Nat) (idsc4 : Nat) (H : Hp) (K : Option Addr → Nat → Nat → Int → Hp → Prop) : Prop :=
  store_Store_has.C s1 idsp2 idsl3 idsc4 H fun r5 Hx6 => bc ((!r5)) (K none 0 0 (15 : Int) Hx6) (NEW Hx6 [.slice none 0 0] fun bq15 Hx16 => store_Store_needed.C s1 idsp2 idsl3 idsc4 Hx16 fun r17 Hx18 => ITERV prog r17 Hx18 (fun vals Hx24 Kbq25 => d1 vals fun w0 => liftI .u32 w0 fun z23 => ldL (rd Hx24 bq15 0) fun xp26 xl27 xc28 => NEW Hx24 ([.int .u32 z23]) fun bq29 Hx30 => APP Hx30 te_uint32 xp26 xl27 xc28 (.slice (some ⟨bq29, 0, none⟩) 1 1) fun xp31 xl32 xc33 Hx34 => ST Hx34 bq15 0 (.slice xp31 xl32 xc33) fun Hx35 => Kbq25 .on Hx35) (fun al36 Hx37 => alC al36 (ldL (rd Hx37 bq15 0) fun xp40 xl41 xc42 => slices_Sort_uint32_uint32.C xp40 xl41 xc42 Hx37 fun Hx43 => ldL (rd Hx43 bq15 0) fun xp47 xl48 xc49 => K xp47 xl48 xc49 (0 : Int) Hx43) fun _ _ => True))
theorem store_Store_Need.vc (s1 : Option Addr) (idsp2 : Option Addr) (idsl3 : Nat) (idsc4 : Nat) (H : Hp) (K : Option Addr → Nat → Nat → Int → Hp → Prop) : vcFun prog tab store_Store_Need.ann none Try.f10 (List.map AV.v [.pointer s1, .slice idsp2 idsl3 idsc4]) H (fun v H2 _ => tupV v fun vs => d2 vs fun wv0 wv1 => liftL wv0 fun rp54 rl55 rc56 => liftI .i64 wv1 fun r57 => K rp54 rl55 rc56 r57 H2) = store_Store_Need.F s1 idsp2 idsl3 idsc4 H K := by kernel_rfl
theorem store_Store_Need.of (s1 : Option Addr) (idsp2 : Option Addr) (idsl3 : Nat) (idsc4 : Nat) {H : Hp} {K : Option Addr → Nat → Nat → Int → Hp → Prop} (h : store_Store_Need.F s1 idsp2 idsl3 idsc4 H K) : store_Store_Need.C s1 idsp2 idsl3 idsc4 H K := CallH_of_vc mix tabOk Try.func10 (by kernel_rfl) ((store_Store_Need.vc s1 idsp2 idsl3 idsc4 H K).mpr h)
-- (*cento/store.Store).Closed (11)
def store_Store_Closed.ann : Ann := { loops := [], pars := [] }
def store_Store_Closed.F (s1 : Option Addr) (idsp2 : Option Addr) (idsl3 : Nat) (idsc4 : Nat) (H : Hp) (K : Bool → Hp → Prop) : Prop :=
  store_Store_Need.C s1 idsp2 idsl3 idsc4 H fun rp5 rl6 rc7 r8 Hx9 => bc ((decide (r8 = (0 : Int)))) (bc ((decide (((rl6 : Nat) : Int) = ((idsl3 : Nat) : Int)))) (store_set.C idsp2 idsl3 idsc4 Hx9 fun rp14 rl15 rc16 Hx17 => slices_Equal_uint32_uint32.C rp5 rl6 rc7 rp14 rl15 rc16 Hx17 fun r21 Hx22 => K r21 Hx22) (K false Hx9)) (K false Hx9)
theorem store_Store_Closed.vc (s1 : Option Addr) (idsp2 : Option Addr) (idsl3 : Nat) (idsc4 : Nat) (H : Hp) (K : Bool → Hp → Prop) : vcFun prog tab store_Store_Closed.ann none Try.f11 (List.map AV.v [.pointer s1, .slice idsp2 idsl3 idsc4]) H (fun v H2 _ => liftB v fun r32 => K r32 H2) = store_Store_Closed.F s1 idsp2 idsl3 idsc4 H K := by kernel_rfl
theorem store_Store_Closed.of (s1 : Option Addr) (idsp2 : Option Addr) (idsl3 : Nat) (idsc4 : Nat) {H : Hp} {K : Bool → Hp → Prop} (h : store_Store_Closed.F s1 idsp2 idsl3 idsc4 H K) : store_Store_Closed.C s1 idsp2 idsl3 idsc4 H K := CallH_of_vc mix tabOk Try.func11 (by kernel_rfl) ((store_Store_Closed.vc s1 idsp2 idsl3 idsc4 H K).mpr h)
-- (*cento/store.Store).IDs (12)
def store_Store_IDs.ann : Ann := { loops := [], pars := [] }
def store_Store_IDs.F (s1 : Option Addr) (H : Hp) (K : Option Addr → Nat → Nat → Hp → Prop) : Prop :=
  NIL s1 fun bq2 oq3 => ldM (rd H bq2 oq3) fun x4 => maps_Keys_map_uint32_api_Patch_uint32_api_Patch.C x4 H fun r5 Hx6 => slices_Sorted_uint32.C (r5) Hx6 fun rp8 rl9 rc10 Hx11 => K rp8 rl9 rc10 Hx11
theorem store_Store_IDs.vc (s1 : Option Addr) (H : Hp) (K : Option Addr → Nat → Nat → Hp → Prop) : vcFun prog tab store_Store_IDs.ann none Try.f12 (List.map AV.v [.pointer s1]) H (fun v H2 _ => liftL v fun rp16 rl17 rc18 => K rp16 rl17 rc18 H2) = store_Store_IDs.F s1 H K := by kernel_rfl
theorem store_Store_IDs.of (s1 : Option Addr) {H : Hp} {K : Option Addr → Nat → Nat → Hp → Prop} (h : store_Store_IDs.F s1 H K) : store_Store_IDs.C s1 H K := CallH_of_vc mix tabOk Try.func12 (by kernel_rfl) ((store_Store_IDs.vc s1 H K).mpr h)
-- cento/centoref12.Has (13)
def centoref12_Has.ann : Ann := { loops := [(0, [(5, .one (.int .i64))])], pars := [] }
def centoref12_Has.F (lp1 : Option Addr) (ll2 : Nat) (_lc3 : Nat) (id4 : Int) (H : Hp) (K : Bool → Hp → Prop) : Prop :=
  ∃ (Iq7 : Int → Hp → Prop) (mu8 : Int → Hp → Nat), Iq7 (0 : Int) H ∧ ∀ (i5 : Int) (Hx6 : Hp), Iq7 i5 Hx6 → bc ((decide (i5 < ((ll2 : Nat) : Int)))) (IDX i5 ll2 fun k9 => NIL lp1 fun bq10 oq11 => ldI .u32 (rd Hx6 bq10 (oq11 + k9)) fun x12 => bc ((decide (x12 = id4))) (K true Hx6) (CHK .i64 (i5 + (1 : Int)) fun x14 => Iq7 x14 Hx6 ∧ mu8 x14 Hx6 < mu8 i5 Hx6)) (K false Hx6)
theorem centoref12_Has.vc (lp1 : Option Addr) (ll2 : Nat) (lc3 : Nat) (id4 : Int) (H : Hp) (K : Bool → Hp → Prop) : vcFun prog tab centoref12_Has.ann none Try.f13 (List.map AV.v [.slice lp1 ll2 lc3, .int .u32 id4]) H (fun v H2 _ => liftB v fun r17 => K r17 H2) = centoref12_Has.F lp1 ll2 lc3 id4 H K := by kernel_rfl
theorem centoref12_Has.of (lp1 : Option Addr) (ll2 : Nat) (lc3 : Nat) (id4 : Int) {H : Hp} {K : Bool → Hp → Prop} (h : centoref12_Has.F lp1 ll2 lc3 id4 H K) : centoref12_Has.C lp1 ll2 lc3 id4 H K := CallH_of_vc mix tabOk Try.func13 (by kernel_rfl) ((centoref12_Has.vc lp1 ll2 lc3 id4 H K).mpr h)
-- (*cento/store.Store).Users (14)
def store_Store_Users.ann : Ann := { loops := [], pars := [] }
def store_Store_Users.F (s1 : Option Addr) (idsp2 : Option Addr) (idsl3 : Nat) (idsc4 : Nat) (id5 : Int) (H : Hp) (K : Option Addr → Nat → Nat → Hp → Prop) : Prop :=
  NEW H [.pointer s1] fun bq6 Hx7 => NEW Hx7 [.int .u32 id5] fun bq8 Hx9 => store_set.C idsp2 idsl3 idsc4 Hx9 fun rp10 rl11 rc12 Hx13 => slices_DeleteFunc_uint32_uint32.C rp10 rl11 rc12 (.func (.func 29) ⟨[]⟩ ⟨[.pointer (some ⟨bq6, 0, none⟩), .pointer (some ⟨bq8, 0, none⟩)]⟩) Hx13 fun rp17 rl18 rc19 Hx20 => K rp17 rl18 rc19 Hx20
theorem store_Store_Users.vc (s1 : Option Addr) (idsp2 : Option Addr) (idsl3 : Nat) (idsc4 : Nat) (id5 : Int) (H : Hp) (K : Option Addr → Nat → Nat → Hp → Prop) : vcFun prog tab store_Store_Users.ann none Try.f14 (List.map AV.v [.pointer s1, .slice idsp2 idsl3 idsc4, .int .u32 id5]) H (fun v H2 _ => liftL v fun rp28 rl29 rc30 => K rp28 rl29 rc30 H2) = store_Store_Users.F s1 idsp2 idsl3 idsc4 id5 H K := by kernel_rfl
theorem store_Store_Users.of (s1 : Option Addr) (idsp2 : Option Addr) (idsl3 : Nat) (idsc4 : Nat) (id5 : Int) {H : Hp} {K : Option Addr → Nat → Nat → Hp → Prop} (h : store_Store_Users.F s1 idsp2 idsl3 idsc4 id5 H K) : store_Store_Users.C s1 idsp2 idsl3 idsc4 id5 H K := CallH_of_vc mix tabOk Try.func14 (by kernel_rfl) ((store_Store_Users.vc s1 idsp2 idsl3 idsc4 id5 H K).mpr h)
-- (*cento/store.Store).List (15)
def store_Store_List.ann : Ann := { loops := [(0, [(6, .one .slice), (16, .one (.int .i64))])], pars := [] }
def store_Store_List.F (s1 : Option Addr) (idsp2 : Option Addr) (idsl3 : Nat) (idsc4 : Nat) (H : Hp) (K : Option Addr → Nat → Nat → Int → Hp → Prop) : Prop :=
  store_Store_has.C s1 idsp2 idsl3 idsc4 H fun r5 Hx6 => bc ((!r5)) (K none 0 0 (15 : Int) Hx6) (store_set.C idsp2 idsl3 idsc4 Hx6 fun rp15 rl16 _ Hx18 => ∃ (Iq27 : Option Addr → Nat → Nat → Int → Hp → Prop) (mu28 : Option Addr → Nat → Nat → Int → Hp → Nat), Iq27 none 0 0 (0 : Int) Hx18 ∧ ∀ (outp22 : Option Addr) (outl23 : Nat) (outc24 : Nat) (t25 : Int) (Hx26 : Hp), Iq27 outp22 outl23 outc24 t25 Hx26 → bc ((decide (t25 < ((rl16 : Nat) : Int)))) (IDX t25 rl16 fun k29 => NIL rp15 fun bq30 oq31 => ldI .u32 (rd Hx26 bq30 (oq31 + k29)) fun x32 => NIL s1 fun bq33 oq34 => ldM (rd Hx26 bq33 oq34) fun x35 => LKP prog 49 x35 (.int .u32 x32) false Hx26 fun v => aggV v fun cs => d5 cs fun wv0 wv1 wv2 wv3 wv4 => liftI .u32 wv0 fun x36 => liftL wv1 fun xp37 xl38 xc39 => liftL wv2 fun xp40 xl41 xc42 => liftL wv3 fun xp43 xl44 xc45 => liftL wv4 fun xp46 xl47 xc48 => patch_Copy.C x36 xp37 xl38 xc39 xp40 xl41 xc42 xp43 xl44 xc45 xp46 xl47 xc48 Hx26 fun r49 rp50 rl51 rc52 rp53 rl54 rc55 rp56 rl57 rc58 rp59 rl60 rc61 Hx62 => NEW Hx62 ([.int .u32 r49, .slice rp50 rl51 rc52, .slice rp53 rl54 rc55, .slice rp56 rl57 rc58, .slice rp59 rl60 rc61]) fun bq76 Hx77 => APP Hx77 te_api_Patch outp22 outl23 outc24 (.slice (some ⟨bq76, 0, none⟩) 1 1) fun xp78 xl79 xc80 Hx81 => CHK .i64 (t25 + (1 : Int)) fun x82 => Iq27 xp78 xl79 xc80 x82 Hx81 ∧ mu28 xp78 xl79 xc80 x82 Hx81 < mu28 outp22 outl23 outc24 t25 Hx26) (K outp22 outl23 outc24 (0 : Int) Hx26))
theorem store_Store_List.vc (s1 : Option Addr) (idsp2 : Option Addr) (idsl3 : Nat) (idsc4 : Nat) (H : Hp) (K : Option Addr → Nat → Nat → Int → Hp → Prop) : vcFun prog tab store_Store_List.ann none Try.f15 (List.map AV.v [.pointer s1, .slice idsp2 idsl3 idsc4]) H (fun v H2 _ => tupV v fun vs => d2 vs fun wv0 wv1 => liftL wv0 fun rp91 rl92 rc93 => liftI .i64 wv1 fun r94 => K rp91 rl92 rc93 r94 H2) = store_Store_List.F s1 idsp2 idsl3 idsc4 H K := by kernel_rfl
theorem store_Store_List.of (s1 : Option Addr) (idsp2 : Option Addr) (idsl3 : Nat) (idsc4 : Nat) {H : Hp} {K : Option Addr → Nat → Nat → Int → Hp → Prop} (h : store_Store_List.F s1 idsp2 idsl3 idsc4 H K) : store_Store_List.C s1 idsp2 idsl3 idsc4 H K := CallH_of_vc mix tabOk Try.func15 (by kernel_rfl) ((store_Store_List.vc s1 idsp2 idsl3 idsc4 H K).mpr h)
-- (*cento/store.Store).Get (16)
def store_Store_Get.ann : Ann := { loops := [], pars := [] }
def store_Store_Get.F (s1 : Option Addr) (id2 : Int) (H : Hp) (K : Int → Option Addr → Nat → Nat → Option Addr → Nat → Nat → Option Addr → Nat → Nat → Option Addr → Nat → Nat → Bool → Hp → Prop) : Prop :=
  NEW H [.int .u32 (0 : Int), .slice none 0 0, .slice none 0 0, .slice none 0 0, .slice none 0 0] fun bq3 Hx4 => NIL s1 fun bq5 oq6 => ldM (rd Hx4 bq5 oq6) fun x7 => LKP prog 49 x7 (.int .u32 id2) true Hx4 fun v => tupV v fun vs => d2 vs fun wv0 wv1 => aggV wv0 fun cs => d5 cs fun wwv00 wwv01 wwv02 wwv03 wwv04 => liftI .u32 wwv00 fun x8 => liftL wwv01 fun xp9 xl10 xc11 => liftL wwv02 fun xp12 xl13 xc14 => liftL wwv03 fun xp15 xl16 xc17 => liftL wwv04 fun xp18 xl19 xc20 => liftB wv1 fun x21 => NEW Hx4 [.int .u32 (0 : Int), .slice none 0 0, .slice none 0 0, .slice none 0 0, .slice none 0 0] fun bq22 Hx23 => ST Hx23 bq22 0 (.int .u32 x8) fun Hx24 => ST Hx24 bq22 1 (.slice xp9 xl10 xc11) fun Hx25 => ST Hx25 bq22 2 (.slice xp12 xl13 xc14) fun Hx26 => ST Hx26 bq22 3 (.slice xp15 xl16 xc17) fun Hx27 => ST Hx27 bq22 4 (.slice xp18 xl19 xc20) fun Hx28 => bc ((!x21)) (ST Hx28 bq3 0 (.int .u32 (0 : Int)) fun Hx29 => ST Hx29 bq3 1 (.slice none 0 0) fun Hx30 => ST Hx30 bq3 2 (.slice none 0 0) fun Hx31 => ST Hx31 bq3 3 (.slice none 0 0) fun Hx32 => ST Hx32 bq3 4 (.slice none 0 0) fun Hx33 => ldI .u32 (rd Hx33 bq3 0) fun r34 => ldL (rd Hx33 bq3 1) fun rp35 rl36 rc37 => ldL (rd Hx33 bq3 2) fun rp38 rl39 rc40 => ldL (rd Hx33 bq3 3) fun rp41 rl42 rc43 => ldL (rd Hx33 bq3 4) fun rp44 rl45 rc46 => K r34 rp35 rl36 rc37 rp38 rl39 rc40 rp41 rl42 rc43 rp44 rl45 rc46 false Hx33) (ldI .u32 (rd Hx28 bq22 0) fun x61 => ldL (rd Hx28 bq22 1) fun xp62 xl63 xc64 => ldL (rd Hx28 bq22 2) fun xp65 xl66 xc67 => ldL (rd Hx28 bq22 3) fun xp68 xl69 xc70 => ldL (rd Hx28 bq22 4) fun xp71 xl72 xc73 => patch_Copy.C x61 xp62 xl63 xc64 xp65 xl66 xc67 xp68 xl69 xc70 xp71 xl72 xc73 Hx28 fun r74 rp75 rl76 rc77 rp78 rl79 rc80 rp81 rl82 rc83 rp84 rl85 rc86 Hx87 => ST Hx87 bq3 0 (.int .u32 r74) fun Hx101 => ST Hx101 bq3 1 (.slice rp75 rl76 rc77) fun Hx102 => ST Hx102 bq3 2 (.slice rp78 rl79 rc80) fun Hx103 => ST Hx103 bq3 3 (.slice rp81 rl82 rc83) fun Hx104 => ST Hx104 bq3 4 (.slice rp84 rl85 rc86) fun Hx105 => ldI .u32 (rd Hx105 bq3 0) fun r106 => ldL (rd Hx105 bq3 1) fun rp107 rl108 rc109 => ldL (rd Hx105 bq3 2) fun rp110 rl111 rc112 => ldL (rd Hx105 bq3 3) fun rp113 rl114 rc115 => ldL (rd Hx105 bq3 4) fun rp116 rl117 rc118 => K r106 rp107 rl108 rc109 rp110 rl111 rc112 rp113 rl114 rc115 rp116 rl117 rc118 true Hx105)
theorem store_Store_Get.vc (s1 : Option Addr) (id2 : Int) (H : Hp) (K : Int → Option Addr → Nat → Nat → Option Addr → Nat → Nat → Option Addr → Nat → Nat → Option Addr → Nat → Nat → Bool → Hp → Prop) : vcFun prog tab store_Store_Get.ann none Try.f16 (List.map AV.v [.pointer s1, .int .u32 id2]) H (fun v H2 _ => tupV v fun vs => d2 vs fun wv0 wv1 => aggV wv0 fun cs => d5 cs fun wwv00 wwv01 wwv02 wwv03 wwv04 => liftI .u32 wwv00 fun r133 => liftL wwv01 fun rp134 rl135 rc136 => liftL wwv02 fun rp137 rl138 rc139 => liftL wwv03 fun rp140 rl141 rc142 => liftL wwv04 fun rp143 rl144 rc145 => liftB wv1 fun r146 => K r133 rp134 rl135 rc136 rp137 rl138 rc139 rp140 rl141 rc142 rp143 rl144 rc145 r146 H2) = store_Store_Get.F s1 id2 H K := by kernel_rfl
theorem store_Store_Get.of (s1 : Option Addr) (id2 : Int) {H : Hp} {K : Int → Option Addr → Nat → Nat → Option Addr → Nat → Nat → Option Addr → Nat → Nat → Option Addr → Nat → Nat → Bool → Hp → Prop} (h : store_Store_Get.F s1 id2 H K) : store_Store_Get.C s1 id2 H K := CallH_of_vc mix tabOk Try.func16 (by kernel_rfl) ((store_Store_Get.vc s1 id2 H K).mpr h)
-- cento/centolaw17.few (17)
def centolaw17_few.ann : Ann := { loops := [(0, [(3, .one (.int .i64))]), (2, [(5, .one (.int .i64))]), (4, [(6, .one (.int .i64))]), (6, [(7, .one (.int .i64))])], pars := [] }
def centolaw17_few.k1 (Hx17 : Hp) (Iq18 : Int → Hp → Prop) (K : Bool → Hp → Prop) (bq39 : Nat) (i16 : Int) (mu19 : Int → Hp → Nat) (Hx59 : Hp) : Prop :=
  ∃ (Iq62 : Int → Hp → Prop) (mu63 : Int → Hp → Nat), Iq62 (0 : Int) Hx59 ∧ ∀ (k60 : Int) (Hx61 : Hp), Iq62 k60 Hx61 → ldL (rd Hx61 bq39 1) fun _ xl65 _ => bc ((decide (k60 < ((xl65 : Nat) : Int)))) (ldL (rd Hx61 bq39 1) fun xp67 xl68 _ => IDX k60 xl68 fun k70 => NIL xp67 fun bq71 oq72 => ldS (rd Hx61 bq71 (oq72 + k70)) fun x73 => bc ((decide ((100 : Int) < ((x73.size : Nat) : Int)))) (K false Hx61) (CHK .i64 (k60 + (1 : Int)) fun x75 => Iq62 x75 Hx61 ∧ mu63 x75 Hx61 < mu63 k60 Hx61)) (CHK .i64 (i16 + (1 : Int)) fun x77 => Iq18 x77 Hx61 ∧ mu19 x77 Hx61 < mu19 i16 Hx17)
def centolaw17_few.F (p1 : Int) (pp2 : Option Addr) (pl3 : Nat) (pc4 : Nat) (pp5 : Option Addr) (pl6 : Nat) (pc7 : Nat) (pp8 : Option Addr) (pl9 : Nat) (pc10 : Nat) (pp11 : Option Addr) (pl12 : Nat) (pc13 : Nat) (H : Hp) (K : Bool → Hp → Prop) : Prop :=
  NEW H [.int .u32 p1, .slice pp2 pl3 pc4, .slice pp5 pl6 pc7, .slice pp8 pl9 pc10, .slice pp11 pl12 pc13] fun bq14 Hx15 => ∃ (Iq18 : Int → Hp → Prop) (mu19 : Int → Hp → Nat), Iq18 (0 : Int) Hx15 ∧ ∀ (i16 : Int) (Hx17 : Hp), Iq18 i16 Hx17 → ldL (rd Hx17 bq14 4) fun _ xl21 _ => bc ((decide (i16 < ((xl21 : Nat) : Int)))) (ldL (rd Hx17 bq14 4) fun xp23 xl24 _ => IDX i16 xl24 fun k26 => NIL xp23 fun bq27 oq28 => ldS (rd Hx17 bq27 (oq28 + (k26 * 4))) fun x29 => ldL (rd Hx17 bq27 ((oq28 + (k26 * 4)) + 1)) fun xp30 xl31 xc32 => ldL (rd Hx17 bq27 (((oq28 + (k26 * 4)) + 1) + 1)) fun xp33 xl34 xc35 => ldL (rd Hx17 bq27 ((((oq28 + (k26 * 4)) + 1) + 1) + 1)) fun xp36 xl37 xc38 => NEW Hx17 [.string .empty, .slice none 0 0, .slice none 0 0, .slice none 0 0] fun bq39 Hx40 => ST Hx40 bq39 0 (.string x29) fun Hx41 => ST Hx41 bq39 1 (.slice xp30 xl31 xc32) fun Hx42 => ST Hx42 bq39 2 (.slice xp33 xl34 xc35) fun Hx43 => ST Hx43 bq39 3 (.slice xp36 xl37 xc38) fun Hx44 => ldL (rd Hx44 bq39 1) fun _ xl46 _ => bc ((decide ((50 : Int) < ((xl46 : Nat) : Int)))) (K false Hx44) (ldL (rd Hx44 bq39 2) fun _ xl50 _ => bc ((decide ((90 : Int) < ((xl50 : Nat) : Int)))) (K false Hx44) (ldL (rd Hx44 bq39 3) fun _ xl54 _ => bc ((decide ((50 : Int) < ((xl54 : Nat) : Int)))) (K false Hx44) (ldS (rd Hx44 bq39 0) fun x57 => bc ((decide ((40 : Int) < ((x57.size : Nat) : Int)))) (K false Hx44) (centolaw17_few.k1 Hx17 Iq18 K bq39 i16 mu19 Hx44))))) (∃ (Iq81 : Int → Hp → Prop) (mu82 : Int → Hp → Nat), Iq81 (0 : Int) Hx17 ∧ ∀ (i79 : Int) (Hx80 : Hp), Iq81 i79 Hx80 → ldL (rd Hx80 bq14 2) fun _ xl84 _ => bc ((decide (i79 < ((xl84 : Nat) : Int)))) (ldL (rd Hx80 bq14 2) fun xp86 xl87 _ => IDX i79 xl87 fun k89 => NIL xp86 fun bq90 oq91 => ldS (rd Hx80 bq90 (oq91 + k89)) fun x92 => bc ((decide ((40 : Int) < ((x92.size : Nat) : Int)))) (K false Hx80) (CHK .i64 (i79 + (1 : Int)) fun x94 => Iq81 x94 Hx80 ∧ mu82 x94 Hx80 < mu82 i79 Hx80)) (∃ (Iq98 : Int → Hp → Prop) (mu99 : Int → Hp → Nat), Iq98 (0 : Int) Hx80 ∧ ∀ (i96 : Int) (Hx97 : Hp), Iq98 i96 Hx97 → ldL (rd Hx97 bq14 3) fun _ xl101 _ => bc ((decide (i96 < ((xl101 : Nat) : Int)))) (ldL (rd Hx97 bq14 3) fun xp103 xl104 _ => IDX i96 xl104 fun k106 => NIL xp103 fun bq107 oq108 => ldS (rd Hx97 bq107 (oq108 + k106)) fun x109 => bc ((decide ((40 : Int) < ((x109.size : Nat) : Int)))) (K false Hx97) (CHK .i64 (i96 + (1 : Int)) fun x111 => Iq98 x111 Hx97 ∧ mu99 x111 Hx97 < mu99 i96 Hx97)) (ldL (rd Hx97 bq14 4) fun _ xl114 _ => bc ((decide (((xl114 : Nat) : Int) ≤ (8 : Int)))) (ldL (rd Hx97 bq14 1) fun _ xl117 _ => bc ((decide (((xl117 : Nat) : Int) ≤ (70 : Int)))) (ldL (rd Hx97 bq14 2) fun _ xl120 _ => bc ((decide (((xl120 : Nat) : Int) ≤ (10 : Int)))) (ldL (rd Hx97 bq14 3) fun _ xl123 _ => K (decide (((xl123 : Nat) : Int) ≤ (10 : Int))) Hx97) (K false Hx97)) (K false Hx97)) (K false Hx97))))
theorem centolaw17_few.vc (p1 : Int) (pp2 : Option Addr) (pl3 : Nat) (pc4 : Nat) (pp5 : Option Addr) (pl6 : Nat) (pc7 : Nat) (pp8 : Option Addr) (pl9 : Nat) (pc10 : Nat) (pp11 : Option Addr) (pl12 : Nat) (pc13 : Nat) (H : Hp) (K : Bool → Hp → Prop) : vcFun prog tab centolaw17_few.ann none Try.f17 (List.map AV.v [.agg ⟨[.int .u32 p1, .slice pp2 pl3 pc4, .slice pp5 pl6 pc7, .slice pp8 pl9 pc10, .slice pp11 pl12 pc13]⟩]) H (fun v H2 _ => liftB v fun r129 => K r129 H2) = centolaw17_few.F p1 pp2 pl3 pc4 pp5 pl6 pc7 pp8 pl9 pc10 pp11 pl12 pc13 H K := by kernel_rfl
theorem centolaw17_few.of (p1 : Int) (pp2 : Option Addr) (pl3 : Nat) (pc4 : Nat) (pp5 : Option Addr) (pl6 : Nat) (pc7 : Nat) (pp8 : Option Addr) (pl9 : Nat) (pc10 : Nat) (pp11 : Option Addr) (pl12 : Nat) (pc13 : Nat) {H : Hp} {K : Bool → Hp → Prop} (h : centolaw17_few.F p1 pp2 pl3 pc4 pp5 pl6 pc7 pp8 pl9 pc10 pp11 pl12 pc13 H K) : centolaw17_few.C p1 pp2 pl3 pc4 pp5 pl6 pc7 pp8 pl9 pc10 pp11 pl12 pc13 H K := CallH_of_vc mix tabOk Try.func17 (by kernel_rfl) ((centolaw17_few.vc p1 pp2 pl3 pc4 pp5 pl6 pc7 pp8 pl9 pc10 pp11 pl12 pc13 H K).mpr h)
-- cento/patch.Is (18)
def patch_Is.ann : Ann := { loops := [(0, [(3, .one (.int .i64)), (4, .one .str), (40, .one (.int .i64))])], pars := [] }
def patch_Is.k2 (Hx86 : Hp) (Iq87 : Int → ByteArray → Int → Hp → Prop) (K : Bool → Hp → Prop) (bq102 : Nat) (fromq83 : Int) (last84 : ByteArray) (mu88 : Int → ByteArray → Int → Hp → Nat) (t85 : Int) (t138 : Bool) (Hx139 : Hp) : Prop :=
  bc (t138) (ldL (rd Hx139 bq102 1) fun _ xl141 _ => CHK .i64 (fromq83 + ((xl141 : Nat) : Int)) fun x143 => ldS (rd Hx139 bq102 0) fun x144 => CHK .i64 (t85 + (1 : Int)) fun x145 => Iq87 x143 x144 x145 Hx139 ∧ mu88 x143 x144 x145 Hx139 < mu88 fromq83 last84 t85 Hx86) (K false Hx139)
def patch_Is.k1 (K : Bool → Hp → Prop) (bq14 : Nat) (Hx69 : Hp) : Prop :=
  ldL (rd Hx69 bq14 2) fun xp70 xl71 xc72 => slices_ContainsFunc_string_string.C xp70 xl71 xc72 (.func (.func 34) ⟨[]⟩ ⟨[.pointer (some ⟨bq14, 0, none⟩)]⟩) Hx69 fun r73 Hx74 => bc (r73) (K false Hx74) (ldL (rd Hx74 bq14 4) fun xp80 xl81 _ => ∃ (Iq87 : Int → ByteArray → Int → Hp → Prop) (mu88 : Int → ByteArray → Int → Hp → Nat), Iq87 (0 : Int) (bs []) (0 : Int) Hx74 ∧ ∀ (fromq83 : Int) (last84 : ByteArray) (t85 : Int) (Hx86 : Hp), Iq87 fromq83 last84 t85 Hx86 → bc ((decide (t85 < ((xl81 : Nat) : Int)))) (IDX t85 xl81 fun k89 => NIL xp80 fun bq90 oq91 => ldS (rd Hx86 bq90 (oq91 + (k89 * 4))) fun x92 => ldL (rd Hx86 bq90 ((oq91 + (k89 * 4)) + 1)) fun xp93 xl94 xc95 => ldL (rd Hx86 bq90 (((oq91 + (k89 * 4)) + 1) + 1)) fun xp96 xl97 xc98 => ldL (rd Hx86 bq90 ((((oq91 + (k89 * 4)) + 1) + 1) + 1)) fun xp99 xl100 xc101 => NEW Hx86 [.string .empty, .slice none 0 0, .slice none 0 0, .slice none 0 0] fun bq102 Hx103 => ST Hx103 bq102 0 (.string x92) fun Hx104 => ST Hx104 bq102 1 (.slice xp93 xl94 xc95) fun Hx105 => ST Hx105 bq102 2 (.slice xp96 xl97 xc98) fun Hx106 => ST Hx106 bq102 3 (.slice xp99 xl100 xc101) fun Hx107 => ldS (rd Hx107 bq102 0) fun x108 => patch_IsPath.C x108 Hx107 fun r109 Hx110 => bc (r109) (ldS (rd Hx110 bq102 0) fun x112 => bc ((!((Op.bytesLess x112.toList last84.toList) || decide (x112 = last84)))) (ldI .u32 (rd Hx110 bq14 0) fun x113 => ldS (rd Hx110 bq102 0) fun x114 => ldL (rd Hx110 bq102 1) fun xp115 xl116 xc117 => ldL (rd Hx110 bq102 2) fun xp118 xl119 xc120 => ldL (rd Hx110 bq102 3) fun xp121 xl122 xc123 => patch_isHunk.C x113 x114 xp115 xl116 xc117 xp118 xl119 xc120 xp121 xl122 xc123 fromq83 Hx110 fun r124 Hx125 => patch_Is.k2 Hx86 Iq87 K bq102 fromq83 last84 mu88 t85 r124 Hx125) (patch_Is.k2 Hx86 Iq87 K bq102 fromq83 last84 mu88 t85 false Hx110)) (patch_Is.k2 Hx86 Iq87 K bq102 fromq83 last84 mu88 t85 false Hx110)) (K true Hx86))
def patch_Is.F (p1 : Int) (pp2 : Option Addr) (pl3 : Nat) (pc4 : Nat) (pp5 : Option Addr) (pl6 : Nat) (pc7 : Nat) (pp8 : Option Addr) (pl9 : Nat) (pc10 : Nat) (pp11 : Option Addr) (pl12 : Nat) (pc13 : Nat) (H : Hp) (K : Bool → Hp → Prop) : Prop :=
  NEW H [.int .u32 p1, .slice pp2 pl3 pc4, .slice pp5 pl6 pc7, .slice pp8 pl9 pc10, .slice pp11 pl12 pc13] fun bq14 Hx15 => ldI .u32 (rd Hx15 bq14 0) fun x16 => bc ((decide (x16 = (0 : Int)))) (K false Hx15) (ldL (rd Hx15 bq14 4) fun _ xl19 _ => bc ((decide ((6 : Int) < ((xl19 : Nat) : Int)))) (K false Hx15) (ldL (rd Hx15 bq14 2) fun xp22 xl23 xc24 => patch_paths.C xp22 xl23 xc24 Hx15 fun r25 Hx26 => bc ((!r25)) (K false Hx26) (ldL (rd Hx26 bq14 3) fun xp31 xl32 xc33 => patch_paths.C xp31 xl32 xc33 Hx26 fun r34 Hx35 => bc ((!r34)) (K false Hx35) (ldI .u32 (rd Hx35 bq14 0) fun x40 => ldL (rd Hx35 bq14 1) fun xp41 xl42 xc43 => ldL (rd Hx35 bq14 2) fun xp44 xl45 xc46 => ldL (rd Hx35 bq14 3) fun xp47 xl48 xc49 => ldL (rd Hx35 bq14 4) fun xp50 xl51 xc52 => patch_deps.C x40 xp41 xl42 xc43 xp44 xl45 xc46 xp47 xl48 xc49 xp50 xl51 xc52 Hx35 fun r53 Hx54 => bc ((!r53)) (K false Hx54) (patch_Is.k1 K bq14 Hx54)))))
theorem patch_Is.vc (p1 : Int) (pp2 : Option Addr) (pl3 : Nat) (pc4 : Nat) (pp5 : Option Addr) (pl6 : Nat) (pc7 : Nat) (pp8 : Option Addr) (pl9 : Nat) (pc10 : Nat) (pp11 : Option Addr) (pl12 : Nat) (pc13 : Nat) (H : Hp) (K : Bool → Hp → Prop) : vcFun prog tab patch_Is.ann none Try.f18 (List.map AV.v [.agg ⟨[.int .u32 p1, .slice pp2 pl3 pc4, .slice pp5 pl6 pc7, .slice pp8 pl9 pc10, .slice pp11 pl12 pc13]⟩]) H (fun v H2 _ => liftB v fun r154 => K r154 H2) = patch_Is.F p1 pp2 pl3 pc4 pp5 pl6 pc7 pp8 pl9 pc10 pp11 pl12 pc13 H K := by kernel_rfl
theorem patch_Is.of (p1 : Int) (pp2 : Option Addr) (pl3 : Nat) (pc4 : Nat) (pp5 : Option Addr) (pl6 : Nat) (pc7 : Nat) (pp8 : Option Addr) (pl9 : Nat) (pc10 : Nat) (pp11 : Option Addr) (pl12 : Nat) (pc13 : Nat) {H : Hp} {K : Bool → Hp → Prop} (h : patch_Is.F p1 pp2 pl3 pc4 pp5 pl6 pc7 pp8 pl9 pc10 pp11 pl12 pc13 H K) : patch_Is.C p1 pp2 pl3 pc4 pp5 pl6 pc7 pp8 pl9 pc10 pp11 pl12 pc13 H K := CallH_of_vc mix tabOk Try.func18 (by kernel_rfl) ((patch_Is.vc p1 pp2 pl3 pc4 pp5 pl6 pc7 pp8 pl9 pc10 pp11 pl12 pc13 H K).mpr h)
-- cento/patch.Same (19)
def patch_Same.ann : Ann := { loops := [], pars := [] }
def patch_Same.F (a1 : Int) (ap2 : Option Addr) (al3 : Nat) (ac4 : Nat) (ap5 : Option Addr) (al6 : Nat) (ac7 : Nat) (ap8 : Option Addr) (al9 : Nat) (ac10 : Nat) (ap11 : Option Addr) (al12 : Nat) (ac13 : Nat) (bq14 : Int) (bp15 : Option Addr) (bl16 : Nat) (bcq17 : Nat) (bp18 : Option Addr) (bl19 : Nat) (bcq20 : Nat) (bp21 : Option Addr) (bl22 : Nat) (bcq23 : Nat) (bp24 : Option Addr) (bl25 : Nat) (bcq26 : Nat) (H : Hp) (K : Bool → Hp → Prop) : Prop :=
  NEW H [.int .u32 a1, .slice ap2 al3 ac4, .slice ap5 al6 ac7, .slice ap8 al9 ac10, .slice ap11 al12 ac13] fun bq27 Hx28 => NEW Hx28 [.int .u32 bq14, .slice bp15 bl16 bcq17, .slice bp18 bl19 bcq20, .slice bp21 bl22 bcq23, .slice bp24 bl25 bcq26] fun bq29 Hx30 => ldI .u32 (rd Hx30 bq27 0) fun x31 => ldI .u32 (rd Hx30 bq29 0) fun x32 => bc ((decide (x31 = x32))) (ldL (rd Hx30 bq27 1) fun xp33 xl34 xc35 => ldL (rd Hx30 bq29 1) fun xp36 xl37 xc38 => slices_Equal_uint32_uint32.C xp33 xl34 xc35 xp36 xl37 xc38 Hx30 fun r39 Hx40 => bc (r39) (ldL (rd Hx40 bq27 2) fun xp47 xl48 xc49 => ldL (rd Hx40 bq29 2) fun xp50 xl51 xc52 => slices_Equal_string_string.C xp47 xl48 xc49 xp50 xl51 xc52 Hx40 fun r53 Hx54 => bc (r53) (ldL (rd Hx54 bq27 3) fun xp61 xl62 xc63 => ldL (rd Hx54 bq29 3) fun xp64 xl65 xc66 => slices_Equal_string_string.C xp61 xl62 xc63 xp64 xl65 xc66 Hx54 fun r67 Hx68 => bc (r67) (ldL (rd Hx68 bq27 4) fun xp75 xl76 xc77 => ldL (rd Hx68 bq29 4) fun xp78 xl79 xc80 => slices_EqualFunc_api_Hunk_api_Hunk_api_Hunk_api_Hunk.C xp75 xl76 xc77 xp78 xl79 xc80 (.func (.func 40) ⟨[]⟩ ⟨[]⟩) Hx68 fun r81 Hx82 => K r81 Hx82) (K false Hx68)) (K false Hx54)) (K false Hx40)) (K false Hx30)
theorem patch_Same.vc (a1 : Int) (ap2 : Option Addr) (al3 : Nat) (ac4 : Nat) (ap5 : Option Addr) (al6 : Nat) (ac7 : Nat) (ap8 : Option Addr) (al9 : Nat) (ac10 : Nat) (ap11 : Option Addr) (al12 : Nat) (ac13 : Nat) (bq14 : Int) (bp15 : Option Addr) (bl16 : Nat) (bcq17 : Nat) (bp18 : Option Addr) (bl19 : Nat) (bcq20 : Nat) (bp21 : Option Addr) (bl22 : Nat) (bcq23 : Nat) (bp24 : Option Addr) (bl25 : Nat) (bcq26 : Nat) (H : Hp) (K : Bool → Hp → Prop) : vcFun prog tab patch_Same.ann none Try.f19 (List.map AV.v [.agg ⟨[.int .u32 a1, .slice ap2 al3 ac4, .slice ap5 al6 ac7, .slice ap8 al9 ac10, .slice ap11 al12 ac13]⟩, .agg ⟨[.int .u32 bq14, .slice bp15 bl16 bcq17, .slice bp18 bl19 bcq20, .slice bp21 bl22 bcq23, .slice bp24 bl25 bcq26]⟩]) H (fun v H2 _ => liftB v fun r95 => K r95 H2) = patch_Same.F a1 ap2 al3 ac4 ap5 al6 ac7 ap8 al9 ac10 ap11 al12 ac13 bq14 bp15 bl16 bcq17 bp18 bl19 bcq20 bp21 bl22 bcq23 bp24 bl25 bcq26 H K := by kernel_rfl
theorem patch_Same.of (a1 : Int) (ap2 : Option Addr) (al3 : Nat) (ac4 : Nat) (ap5 : Option Addr) (al6 : Nat) (ac7 : Nat) (ap8 : Option Addr) (al9 : Nat) (ac10 : Nat) (ap11 : Option Addr) (al12 : Nat) (ac13 : Nat) (bq14 : Int) (bp15 : Option Addr) (bl16 : Nat) (bcq17 : Nat) (bp18 : Option Addr) (bl19 : Nat) (bcq20 : Nat) (bp21 : Option Addr) (bl22 : Nat) (bcq23 : Nat) (bp24 : Option Addr) (bl25 : Nat) (bcq26 : Nat) {H : Hp} {K : Bool → Hp → Prop} (h : patch_Same.F a1 ap2 al3 ac4 ap5 al6 ac7 ap8 al9 ac10 ap11 al12 ac13 bq14 bp15 bl16 bcq17 bp18 bl19 bcq20 bp21 bl22 bcq23 bp24 bl25 bcq26 H K) : patch_Same.C a1 ap2 al3 ac4 ap5 al6 ac7 ap8 al9 ac10 ap11 al12 ac13 bq14 bp15 bl16 bcq17 bp18 bl19 bcq20 bp21 bl22 bcq23 bp24 bl25 bcq26 H K := CallH_of_vc mix tabOk Try.func19 (by kernel_rfl) ((patch_Same.vc a1 ap2 al3 ac4 ap5 al6 ac7 ap8 al9 ac10 ap11 al12 ac13 bq14 bp15 bl16 bcq17 bp18 bl19 bcq20 bp21 bl22 bcq23 bp24 bl25 bcq26 H K).mpr h)
-- (*cento/store.Store).has (20)
def store_Store_has.ann : Ann := { loops := [], pars := [] }
def store_Store_has.F (s1 : Option Addr) (idsp2 : Option Addr) (idsl3 : Nat) (idsc4 : Nat) (H : Hp) (K : Bool → Hp → Prop) : Prop :=
  NEW H [.pointer s1] fun bq5 Hx6 => slices_ContainsFunc_uint32_uint32.C idsp2 idsl3 idsc4 (.func (.func 42) ⟨[]⟩ ⟨[.pointer (some ⟨bq5, 0, none⟩)]⟩) Hx6 fun r7 Hx8 => K (!r7) Hx8
theorem store_Store_has.vc (s1 : Option Addr) (idsp2 : Option Addr) (idsl3 : Nat) (idsc4 : Nat) (H : Hp) (K : Bool → Hp → Prop) : vcFun prog tab store_Store_has.ann none Try.f20 (List.map AV.v [.pointer s1, .slice idsp2 idsl3 idsc4]) H (fun v H2 _ => liftB v fun r14 => K r14 H2) = store_Store_has.F s1 idsp2 idsl3 idsc4 H K := by kernel_rfl
theorem store_Store_has.of (s1 : Option Addr) (idsp2 : Option Addr) (idsl3 : Nat) (idsc4 : Nat) {H : Hp} {K : Bool → Hp → Prop} (h : store_Store_has.F s1 idsp2 idsl3 idsc4 H K) : store_Store_has.C s1 idsp2 idsl3 idsc4 H K := CallH_of_vc mix tabOk Try.func20 (by kernel_rfl) ((store_Store_has.vc s1 idsp2 idsl3 idsc4 H K).mpr h)
-- cento/patch.Copy (21)
def patch_Copy.ann : Ann := { loops := [(0, [(24, .one (.int .i64))])], pars := [] }
def patch_Copy.F (p1 : Int) (pp2 : Option Addr) (pl3 : Nat) (pc4 : Nat) (pp5 : Option Addr) (pl6 : Nat) (pc7 : Nat) (pp8 : Option Addr) (pl9 : Nat) (pc10 : Nat) (pp11 : Option Addr) (pl12 : Nat) (pc13 : Nat) (H : Hp) (K : Int → Option Addr → Nat → Nat → Option Addr → Nat → Nat → Option Addr → Nat → Nat → Option Addr → Nat → Nat → Hp → Prop) : Prop :=
  NEW H [.int .u32 p1, .slice pp2 pl3 pc4, .slice pp5 pl6 pc7, .slice pp8 pl9 pc10, .slice pp11 pl12 pc13] fun bq14 Hx15 => NEW Hx15 [.int .u32 (0 : Int), .slice none 0 0, .slice none 0 0, .slice none 0 0, .slice none 0 0] fun bq16 Hx17 => ldL (rd Hx17 bq14 1) fun xp18 xl19 xc20 => ldL (rd Hx17 bq14 2) fun xp21 xl22 xc23 => ldL (rd Hx17 bq14 3) fun xp24 xl25 xc26 => ldL (rd Hx17 bq14 4) fun xp27 xl28 xc29 => slices_Clone_uint32_uint32.C xp18 xl19 xc20 Hx17 fun rp30 rl31 rc32 Hx33 => rd Hx33 bq14 4 = some (.slice xp27 xl28 xc29) ∧ (rd Hx33 bq14 3 = some (.slice xp24 xl25 xc26) ∧ (rd Hx33 bq14 2 = some (.slice xp21 xl22 xc23) ∧ (slices_Clone_string_string.C xp21 xl22 xc23 Hx33 fun rp37 rl38 rc39 Hx40 => rd Hx40 bq14 4 = some (.slice xp27 xl28 xc29) ∧ (rd Hx40 bq14 3 = some (.slice xp24 xl25 xc26) ∧ (slices_Clone_string_string.C xp24 xl25 xc26 Hx40 fun rp44 rl45 rc46 Hx47 => rd Hx47 bq14 4 = some (.slice xp27 xl28 xc29) ∧ (slices_Clone_api_Hunk_api_Hunk.C xp27 xl28 xc29 Hx47 fun rp51 rl52 rc53 Hx54 => ST Hx54 bq14 1 (.slice rp30 rl31 rc32) fun Hx58 => ST Hx58 bq14 2 (.slice rp37 rl38 rc39) fun Hx59 => ST Hx59 bq14 3 (.slice rp44 rl45 rc46) fun Hx60 => ST Hx60 bq14 4 (.slice rp51 rl52 rc53) fun Hx61 => ldL (rd Hx61 bq14 4) fun xp62 xl63 _ => ∃ (Iq67 : Int → Hp → Prop) (mu68 : Int → Hp → Nat), Iq67 (0 : Int) Hx61 ∧ ∀ (t65 : Int) (Hx66 : Hp), Iq67 t65 Hx66 → bc ((decide (t65 < ((xl63 : Nat) : Int)))) (IDX t65 xl63 fun k69 => NIL xp62 fun bq70 oq71 => ldS (rd Hx66 bq70 (oq71 + (k69 * 4))) fun x72 => ldL (rd Hx66 bq70 ((oq71 + (k69 * 4)) + 1)) fun xp73 xl74 xc75 => ldL (rd Hx66 bq70 (((oq71 + (k69 * 4)) + 1) + 1)) fun xp76 xl77 xc78 => ldL (rd Hx66 bq70 ((((oq71 + (k69 * 4)) + 1) + 1) + 1)) fun xp79 xl80 xc81 => NEW Hx66 [.string .empty, .slice none 0 0, .slice none 0 0, .slice none 0 0] fun bq82 Hx83 => ST Hx83 bq82 0 (.string x72) fun Hx84 => ST Hx84 bq82 1 (.slice xp73 xl74 xc75) fun Hx85 => ST Hx85 bq82 2 (.slice xp76 xl77 xc78) fun Hx86 => ST Hx86 bq82 3 (.slice xp79 xl80 xc81) fun Hx87 => ldL (rd Hx87 bq14 4) fun xp88 xl89 xc90 => ldL (rd Hx87 bq14 4) fun xp91 xl92 xc93 => ldL (rd Hx87 bq14 4) fun xp94 xl95 xc96 => ldL (rd Hx87 bq82 1) fun xp97 xl98 xc99 => ldL (rd Hx87 bq82 2) fun xp100 xl101 xc102 => ldL (rd Hx87 bq82 3) fun xp103 xl104 xc105 => slices_Clone_string_string.C xp97 xl98 xc99 Hx87 fun rp106 rl107 rc108 Hx109 => rd Hx109 bq82 3 = some (.slice xp103 xl104 xc105) ∧ (rd Hx109 bq82 2 = some (.slice xp100 xl101 xc102) ∧ (rd Hx109 bq14 4 = some (.slice xp94 xl95 xc96) ∧ (rd Hx109 bq14 4 = some (.slice xp91 xl92 xc93) ∧ (rd Hx109 bq14 4 = some (.slice xp88 xl89 xc90) ∧ (slices_Clone_api_Edge_api_Edge.C xp100 xl101 xc102 Hx109 fun rp113 rl114 rc115 Hx116 => rd Hx116 bq82 3 = some (.slice xp103 xl104 xc105) ∧ (rd Hx116 bq14 4 = some (.slice xp94 xl95 xc96) ∧ (rd Hx116 bq14 4 = some (.slice xp91 xl92 xc93) ∧ (rd Hx116 bq14 4 = some (.slice xp88 xl89 xc90) ∧ (slices_Clone_api_LineID_api_LineID.C xp103 xl104 xc105 Hx116 fun rp120 rl121 rc122 Hx123 => rd Hx123 bq14 4 = some (.slice xp94 xl95 xc96) ∧ (rd Hx123 bq14 4 = some (.slice xp91 xl92 xc93) ∧ (rd Hx123 bq14 4 = some (.slice xp88 xl89 xc90) ∧ (IDX t65 xl89 fun k127 => NIL xp88 fun bq128 oq129 => ST Hx123 bq128 ((oq129 + (k127 * 4)) + 1) (.slice rp106 rl107 rc108) fun Hx130 => rd Hx130 bq14 4 = some (.slice xp94 xl95 xc96) ∧ (rd Hx130 bq14 4 = some (.slice xp91 xl92 xc93) ∧ (IDX t65 xl92 fun k131 => NIL xp91 fun bq132 oq133 => ST Hx130 bq132 ((oq133 + (k131 * 4)) + 2) (.slice rp113 rl114 rc115) fun Hx134 => rd Hx134 bq14 4 = some (.slice xp94 xl95 xc96) ∧ (IDX t65 xl95 fun k135 => NIL xp94 fun bq136 oq137 => ST Hx134 bq136 ((oq137 + (k135 * 4)) + 3) (.slice rp120 rl121 rc122) fun Hx138 => CHK .i64 (t65 + (1 : Int)) fun x139 => Iq67 x139 Hx138 ∧ mu68 x139 Hx138 < mu68 t65 Hx66)))))))))))))))) (ldI .u32 (rd Hx66 bq14 0) fun x141 => ldL (rd Hx66 bq14 1) fun xp142 xl143 xc144 => ldL (rd Hx66 bq14 2) fun xp145 xl146 xc147 => ldL (rd Hx66 bq14 3) fun xp148 xl149 xc150 => ldL (rd Hx66 bq14 4) fun xp151 xl152 xc153 => ST Hx66 bq16 0 (.int .u32 x141) fun Hx154 => ST Hx154 bq16 1 (.slice xp142 xl143 xc144) fun Hx155 => ST Hx155 bq16 2 (.slice xp145 xl146 xc147) fun Hx156 => ST Hx156 bq16 3 (.slice xp148 xl149 xc150) fun Hx157 => ST Hx157 bq16 4 (.slice xp151 xl152 xc153) fun Hx158 => ldI .u32 (rd Hx158 bq16 0) fun r159 => ldL (rd Hx158 bq16 1) fun rp160 rl161 rc162 => ldL (rd Hx158 bq16 2) fun rp163 rl164 rc165 => ldL (rd Hx158 bq16 3) fun rp166 rl167 rc168 => ldL (rd Hx158 bq16 4) fun rp169 rl170 rc171 => K r159 rp160 rl161 rc162 rp163 rl164 rc165 rp166 rl167 rc168 rp169 rl170 rc171 Hx158)))))))
theorem patch_Copy.vc (p1 : Int) (pp2 : Option Addr) (pl3 : Nat) (pc4 : Nat) (pp5 : Option Addr) (pl6 : Nat) (pc7 : Nat) (pp8 : Option Addr) (pl9 : Nat) (pc10 : Nat) (pp11 : Option Addr) (pl12 : Nat) (pc13 : Nat) (H : Hp) (K : Int → Option Addr → Nat → Nat → Option Addr → Nat → Nat → Option Addr → Nat → Nat → Option Addr → Nat → Nat → Hp → Prop) : vcFun prog tab patch_Copy.ann none Try.f21 (List.map AV.v [.agg ⟨[.int .u32 p1, .slice pp2 pl3 pc4, .slice pp5 pl6 pc7, .slice pp8 pl9 pc10, .slice pp11 pl12 pc13]⟩]) H (fun v H2 _ => aggV v fun cs => d5 cs fun wv0 wv1 wv2 wv3 wv4 => liftI .u32 wv0 fun r185 => liftL wv1 fun rp186 rl187 rc188 => liftL wv2 fun rp189 rl190 rc191 => liftL wv3 fun rp192 rl193 rc194 => liftL wv4 fun rp195 rl196 rc197 => K r185 rp186 rl187 rc188 rp189 rl190 rc191 rp192 rl193 rc194 rp195 rl196 rc197 H2) = patch_Copy.F p1 pp2 pl3 pc4 pp5 pl6 pc7 pp8 pl9 pc10 pp11 pl12 pc13 H K := by kernel_rfl
theorem patch_Copy.of (p1 : Int) (pp2 : Option Addr) (pl3 : Nat) (pc4 : Nat) (pp5 : Option Addr) (pl6 : Nat) (pc7 : Nat) (pp8 : Option Addr) (pl9 : Nat) (pc10 : Nat) (pp11 : Option Addr) (pl12 : Nat) (pc13 : Nat) {H : Hp} {K : Int → Option Addr → Nat → Nat → Option Addr → Nat → Nat → Option Addr → Nat → Nat → Option Addr → Nat → Nat → Hp → Prop} (h : patch_Copy.F p1 pp2 pl3 pc4 pp5 pl6 pc7 pp8 pl9 pc10 pp11 pl12 pc13 H K) : patch_Copy.C p1 pp2 pl3 pc4 pp5 pl6 pc7 pp8 pl9 pc10 pp11 pl12 pc13 H K := CallH_of_vc mix tabOk Try.func21 (by kernel_rfl) ((patch_Copy.vc p1 pp2 pl3 pc4 pp5 pl6 pc7 pp8 pl9 pc10 pp11 pl12 pc13 H K).mpr h)
-- (*cento/store.Store).needed (22)
def store_Store_needed.ann : Ann := { loops := [], pars := [] }
def store_Store_needed.F (s1 : Option Addr) (idsp2 : Option Addr) (idsl3 : Nat) (idsc4 : Nat) (H : Hp) (K : Value → Hp → Prop) : Prop :=
  NEW H [.pointer s1] fun bq5 Hx6 => NEW Hx6 [.slice idsp2 idsl3 idsc4] fun bq7 Hx8 => K (.func (.func 48) ⟨[]⟩ ⟨[.pointer (some ⟨bq7, 0, none⟩), .pointer (some ⟨bq5, 0, none⟩)]⟩) Hx8
theorem store_Store_needed.vc (s1 : Option Addr) (idsp2 : Option Addr) (idsl3 : Nat) (idsc4 : Nat) (H : Hp) (K : Value → Hp → Prop) : vcFun prog tab store_Store_needed.ann none Try.f22 (List.map AV.v [.pointer s1, .slice idsp2 idsl3 idsc4]) H (fun v H2 _ => (fun r10 => K r10 H2) v) = store_Store_needed.F s1 idsp2 idsl3 idsc4 H K := by kernel_rfl
theorem store_Store_needed.of (s1 : Option Addr) (idsp2 : Option Addr) (idsl3 : Nat) (idsc4 : Nat) {H : Hp} {K : Value → Hp → Prop} (h : store_Store_needed.F s1 idsp2 idsl3 idsc4 H K) : store_Store_needed.C s1 idsp2 idsl3 idsc4 H K := CallH_of_vc mix tabOk Try.func22 (by kernel_rfl) ((store_Store_needed.vc s1 idsp2 idsl3 idsc4 H K).mpr h)
-- slices.Sort[[]uint32,uint32] (23)
def slices_Sort_uint32_uint32.ann : Ann := { loops := [], pars := [] }
def slices_Sort_uint32_uint32.F (xp1 : Option Addr) (xl2 : Nat) (xc3 : Nat) (H : Hp) (K : Hp → Prop) : Prop :=
  math_bits_Len.C (IntKind.wrap .u64 ((xl2 : Nat) : Int)) H fun r4 Hx5 => slices_pdqsortOrdered_uint32.C xp1 xl2 xc3 (0 : Int) ((xl2 : Nat) : Int) r4 Hx5 fun Hx7 => K Hx7
theorem slices_Sort_uint32_uint32.vc (xp1 : Option Addr) (xl2 : Nat) (xc3 : Nat) (H : Hp) (K : Hp → Prop) : vcFun prog tab slices_Sort_uint32_uint32.ann none Try.f23 (List.map AV.v [.slice xp1 xl2 xc3]) H (fun v H2 _ => tupV v fun vs => d0 vs (K H2)) = slices_Sort_uint32_uint32.F xp1 xl2 xc3 H K := by kernel_rfl
theorem slices_Sort_uint32_uint32.of (xp1 : Option Addr) (xl2 : Nat) (xc3 : Nat) {H : Hp} {K : Hp → Prop} (h : slices_Sort_uint32_uint32.F xp1 xl2 xc3 H K) : slices_Sort_uint32_uint32.C xp1 xl2 xc3 H K := CallH_of_vc mix tabOk Try.func23 (by kernel_rfl) ((slices_Sort_uint32_uint32.vc xp1 xl2 xc3 H K).mpr h)
-- slices.Equal[[]uint32,uint32] (24)
def slices_Equal_uint32_uint32.ann : Ann := { loops := [(0, [(13, .one (.int .i64))])], pars := [] }
def slices_Equal_uint32_uint32.F (sp1 : Option Addr) (sl2 : Nat) (_sc3 : Nat) (sp4 : Option Addr) (sl5 : Nat) (_sc6 : Nat) (H : Hp) (K : Bool → Hp → Prop) : Prop :=
  bc ((decide (¬ ((sl2 : Nat) : Int) = ((sl5 : Nat) : Int)))) (K false H) (∃ (Iq10 : Int → Hp → Prop) (mu11 : Int → Hp → Nat), Iq10 (0 : Int) H ∧ ∀ (t8 : Int) (Hx9 : Hp), Iq10 t8 Hx9 → bc ((decide (t8 < ((sl2 : Nat) : Int)))) (IDX t8 sl2 fun k12 => NIL sp1 fun bq13 oq14 => ldI .u32 (rd Hx9 bq13 (oq14 + k12)) fun x15 => IDX t8 sl5 fun k16 => NIL sp4 fun bq17 oq18 => ldI .u32 (rd Hx9 bq17 (oq18 + k16)) fun x19 => bc ((decide (¬ x15 = x19))) (K false Hx9) (CHK .i64 (t8 + (1 : Int)) fun x21 => Iq10 x21 Hx9 ∧ mu11 x21 Hx9 < mu11 t8 Hx9)) (K true Hx9))
theorem slices_Equal_uint32_uint32.vc (sp1 : Option Addr) (sl2 : Nat) (sc3 : Nat) (sp4 : Option Addr) (sl5 : Nat) (sc6 : Nat) (H : Hp) (K : Bool → Hp → Prop) : vcFun prog tab slices_Equal_uint32_uint32.ann none Try.f24 (List.map AV.v [.slice sp1 sl2 sc3, .slice sp4 sl5 sc6]) H (fun v H2 _ => liftB v fun r24 => K r24 H2) = slices_Equal_uint32_uint32.F sp1 sl2 sc3 sp4 sl5 sc6 H K := by kernel_rfl
theorem slices_Equal_uint32_uint32.of (sp1 : Option Addr) (sl2 : Nat) (sc3 : Nat) (sp4 : Option Addr) (sl5 : Nat) (sc6 : Nat) {H : Hp} {K : Bool → Hp → Prop} (h : slices_Equal_uint32_uint32.F sp1 sl2 sc3 sp4 sl5 sc6 H K) : slices_Equal_uint32_uint32.C sp1 sl2 sc3 sp4 sl5 sc6 H K := CallH_of_vc mix tabOk Try.func24 (by kernel_rfl) ((slices_Equal_uint32_uint32.vc sp1 sl2 sc3 sp4 sl5 sc6 H K).mpr h)
-- cento/store.set (25)
def store_set.ann : Ann := { loops := [], pars := [] }
def store_set.F (idsp1 : Option Addr) (idsl2 : Nat) (idsc3 : Nat) (H : Hp) (K : Option Addr → Nat → Nat → Hp → Prop) : Prop :=
  slices_Clone_uint32_uint32.C idsp1 idsl2 idsc3 H fun rp4 rl5 rc6 Hx7 => slices_Sort_uint32_uint32.C rp4 rl5 rc6 Hx7 fun Hx11 => slices_Compact_uint32_uint32.C rp4 rl5 rc6 Hx11 fun rp15 rl16 rc17 Hx18 => K rp15 rl16 rc17 Hx18
theorem store_set.vc (idsp1 : Option Addr) (idsl2 : Nat) (idsc3 : Nat) (H : Hp) (K : Option Addr → Nat → Nat → Hp → Prop) : vcFun prog tab store_set.ann none Try.f25 (List.map AV.v [.slice idsp1 idsl2 idsc3]) H (fun v H2 _ => liftL v fun rp25 rl26 rc27 => K rp25 rl26 rc27 H2) = store_set.F idsp1 idsl2 idsc3 H K := by kernel_rfl
theorem store_set.of (idsp1 : Option Addr) (idsl2 : Nat) (idsc3 : Nat) {H : Hp} {K : Option Addr → Nat → Nat → Hp → Prop} (h : store_set.F idsp1 idsl2 idsc3 H K) : store_set.C idsp1 idsl2 idsc3 H K := CallH_of_vc mix tabOk Try.func25 (by kernel_rfl) ((store_set.vc idsp1 idsl2 idsc3 H K).mpr h)
-- slices.Sorted[uint32] (26)
def slices_Sorted_uint32.ann : Ann := { loops := [], pars := [] }
def slices_Sorted_uint32.F (seq1 : Value) (H : Hp) (K : Option Addr → Nat → Nat → Hp → Prop) : Prop :=
  slices_Collect_uint32.C (seq1) H fun rp2 rl3 rc4 Hx5 => slices_Sort_uint32_uint32.C rp2 rl3 rc4 Hx5 fun Hx7 => K rp2 rl3 rc4 Hx7
theorem slices_Sorted_uint32.vc (seq1 : Value) (H : Hp) (K : Option Addr → Nat → Nat → Hp → Prop) : vcFun prog tab slices_Sorted_uint32.ann none Try.f26 (List.map AV.v [seq1]) H (fun v H2 _ => liftL v fun rp14 rl15 rc16 => K rp14 rl15 rc16 H2) = slices_Sorted_uint32.F seq1 H K := by kernel_rfl
theorem slices_Sorted_uint32.of (seq1 : Value) {H : Hp} {K : Option Addr → Nat → Nat → Hp → Prop} (h : slices_Sorted_uint32.F seq1 H K) : slices_Sorted_uint32.C seq1 H K := CallH_of_vc mix tabOk Try.func26 (by kernel_rfl) ((slices_Sorted_uint32.vc seq1 H K).mpr h)
-- maps.Keys[map[uint32]cento/api.Patch,uint32,cento/api.Patch] (27)
def maps_Keys_map_uint32_api_Patch_uint32_api_Patch.ann : Ann := { loops := [], pars := [] }
def maps_Keys_map_uint32_api_Patch_uint32_api_Patch.F (mq1 : Option Nat) (H : Hp) (K : Value → Hp → Prop) : Prop :=
  NEW H [.map mq1] fun bq2 Hx3 => K (.func (.func 53) ⟨[]⟩ ⟨[.pointer (some ⟨bq2, 0, none⟩)]⟩) Hx3
theorem maps_Keys_map_uint32_api_Patch_uint32_api_Patch.vc (mq1 : Option Nat) (H : Hp) (K : Value → Hp → Prop) : vcFun prog tab maps_Keys_map_uint32_api_Patch_uint32_api_Patch.ann none Try.f27 (List.map AV.v [.map mq1]) H (fun v H2 _ => (fun r5 => K r5 H2) v) = maps_Keys_map_uint32_api_Patch_uint32_api_Patch.F mq1 H K := by kernel_rfl
theorem maps_Keys_map_uint32_api_Patch_uint32_api_Patch.of (mq1 : Option Nat) {H : Hp} {K : Value → Hp → Prop} (h : maps_Keys_map_uint32_api_Patch_uint32_api_Patch.F mq1 H K) : maps_Keys_map_uint32_api_Patch_uint32_api_Patch.C mq1 H K := CallH_of_vc mix tabOk Try.func27 (by kernel_rfl) ((maps_Keys_map_uint32_api_Patch_uint32_api_Patch.vc mq1 H K).mpr h)
-- slices.DeleteFunc[[]uint32,uint32] (28)
def slices_DeleteFunc_uint32_uint32.ann : Ann := { loops := [(0, [(5, .one (.int .i64)), (6, .one (.int .i64))])], pars := [] }
def slices_DeleteFunc_uint32_uint32.F (sp1 : Option Addr) (sl2 : Nat) (sc3 : Nat) (del4 : Value) (H : Hp) (K : Option Addr → Nat → Nat → Hp → Prop) : Prop :=
  slices_IndexFunc_uint32_uint32.C sp1 sl2 sc3 (del4) H fun r5 Hx6 => bc ((decide (r5 = (-1 : Int)))) (K sp1 sl2 sc3 Hx6) (CHK .i64 (r5 + (1 : Int)) fun x14 => ∃ (Iq18 : Int → Int → Hp → Prop) (mu19 : Int → Int → Hp → Nat), Iq18 r5 x14 Hx6 ∧ ∀ (i15 : Int) (j16 : Int) (Hx17 : Hp), Iq18 i15 j16 Hx17 → bc ((decide (j16 < ((sl2 : Nat) : Int)))) (IDX j16 sl2 fun k20 => NIL sp1 fun bq21 oq22 => ldI .u32 (rd Hx17 bq21 (oq22 + k20)) fun x23 => CallV prog del4 [.int .u32 x23] Hx17 fun v Hx25 => liftB v fun r24 => bc ((!r24)) (IDX i15 sl2 fun k26 => NIL sp1 fun bq27 oq28 => ST Hx25 bq27 (oq28 + k26) (.int .u32 x23) fun Hx29 => CHK .i64 (i15 + (1 : Int)) fun x30 => CHK .i64 (j16 + (1 : Int)) fun x31 => Iq18 x30 x31 Hx29 ∧ mu19 x30 x31 Hx29 < mu19 i15 j16 Hx17) (CHK .i64 (j16 + (1 : Int)) fun x34 => Iq18 i15 x34 Hx25 ∧ mu19 i15 x34 Hx25 < mu19 i15 j16 Hx17)) (BND (some i15) none sl2 sc3 fun j37 k38 => CLR Hx17 te_uint32 (movA sp1 j37 1 sc3) (k38 - j37) fun Hx39 => BND none (some i15) sl2 sc3 fun j40 k41 => K (movA sp1 j40 1 sc3) (k41 - j40) (sc3 - j40) Hx39))
theorem slices_DeleteFunc_uint32_uint32.vc (sp1 : Option Addr) (sl2 : Nat) (sc3 : Nat) (del4 : Value) (H : Hp) (K : Option Addr → Nat → Nat → Hp → Prop) : vcFun prog tab slices_DeleteFunc_uint32_uint32.ann none Try.f28 (List.map AV.v [.slice sp1 sl2 sc3, del4]) H (fun v H2 _ => liftL v fun rp45 rl46 rc47 => K rp45 rl46 rc47 H2) = slices_DeleteFunc_uint32_uint32.F sp1 sl2 sc3 del4 H K := by kernel_rfl
theorem slices_DeleteFunc_uint32_uint32.of (sp1 : Option Addr) (sl2 : Nat) (sc3 : Nat) (del4 : Value) {H : Hp} {K : Option Addr → Nat → Nat → Hp → Prop} (h : slices_DeleteFunc_uint32_uint32.F sp1 sl2 sc3 del4 H K) : slices_DeleteFunc_uint32_uint32.C sp1 sl2 sc3 del4 H K := CallH_of_vc mix tabOk Try.func28 (by kernel_rfl) ((slices_DeleteFunc_uint32_uint32.vc sp1 sl2 sc3 del4 H K).mpr h)
-- (*cento/store.Store).Users$1 (29)
def store_Store_Users_1.ann : Ann := { loops := [], pars := [] }
def store_Store_Users_1.F (x1 : Int) (cap2 : Nat) (cap3 : Nat) (H : Hp) (K : Bool → Hp → Prop) : Prop :=
  ldP (rd H cap2 0) fun x4 => NIL x4 fun bq5 oq6 => ldM (rd H bq5 oq6) fun x7 => ldI .u32 (rd H cap3 0) fun x8 => LKP prog 49 x7 (.int .u32 x1) false H fun v => aggV v fun cs => d5 cs fun wv0 wv1 wv2 wv3 wv4 => liftI .u32 wv0 fun _ => liftL wv1 fun xp10 xl11 xc12 => liftL wv2 fun _ _ _ => liftL wv3 fun _ _ _ => liftL wv4 fun _ _ _ => rd H cap3 0 = some (.int .u32 x8) ∧ (slices_Contains_uint32_uint32.C xp10 xl11 xc12 x8 H fun r22 Hx23 => K (!r22) Hx23)
theorem store_Store_Users_1.vc (x1 : Int) (cap2 : Nat) (cap3 : Nat) (H : Hp) (K : Bool → Hp → Prop) : vcFun prog tab store_Store_Users_1.ann none Try.f29 (List.map AV.v [.int .u32 x1, .pointer (some ⟨cap2, 0, none⟩), .pointer (some ⟨cap3, 0, none⟩)]) H (fun v H2 _ => liftB v fun r29 => K r29 H2) = store_Store_Users_1.F x1 cap2 cap3 H K := by kernel_rfl
theorem store_Store_Users_1.of (x1 : Int) (cap2 : Nat) (cap3 : Nat) {H : Hp} {K : Bool → Hp → Prop} (h : store_Store_Users_1.F x1 cap2 cap3 H K) : store_Store_Users_1.C x1 cap2 cap3 H K := CallH_of_vc mix tabOk Try.func29 (by kernel_rfl) ((store_Store_Users_1.vc x1 cap2 cap3 H K).mpr h)
-- slices.Contains[[]uint32,uint32] (30)
def slices_Contains_uint32_uint32.ann : Ann := { loops := [], pars := [] }
def slices_Contains_uint32_uint32.F (sp1 : Option Addr) (sl2 : Nat) (sc3 : Nat) (v4 : Int) (H : Hp) (K : Bool → Hp → Prop) : Prop :=
  slices_Index_uint32_uint32.C sp1 sl2 sc3 v4 H fun r5 Hx6 => K (decide ((0 : Int) ≤ r5)) Hx6
theorem slices_Contains_uint32_uint32.vc (sp1 : Option Addr) (sl2 : Nat) (sc3 : Nat) (v4 : Int) (H : Hp) (K : Bool → Hp → Prop) : vcFun prog tab slices_Contains_uint32_uint32.ann none Try.f30 (List.map AV.v [.slice sp1 sl2 sc3, .int .u32 v4]) H (fun v H2 _ => liftB v fun r12 => K r12 H2) = slices_Contains_uint32_uint32.F sp1 sl2 sc3 v4 H K := by kernel_rfl
theorem slices_Contains_uint32_uint32.of (sp1 : Option Addr) (sl2 : Nat) (sc3 : Nat) (v4 : Int) {H : Hp} {K : Bool → Hp → Prop} (h : slices_Contains_uint32_uint32.F sp1 sl2 sc3 v4 H K) : slices_Contains_uint32_uint32.C sp1 sl2 sc3 v4 H K := CallH_of_vc mix tabOk Try.func30 (by kernel_rfl) ((slices_Contains_uint32_uint32.vc sp1 sl2 sc3 v4 H K).mpr h)
-- cento/patch.paths (31)
def patch_paths.ann : Ann := { loops := [], pars := [] }
def patch_paths.F (lp1 : Option Addr) (ll2 : Nat) (lc3 : Nat) (H : Hp) (K : Bool → Hp → Prop) : Prop :=
  bc ((decide (((ll2 : Nat) : Int) ≤ (6 : Int)))) (patch_rises_string.C lp1 ll2 lc3 (.func (.func 57) ⟨[]⟩ ⟨[]⟩) H fun r4 Hx5 => bc (r4) (slices_ContainsFunc_string_string.C lp1 ll2 lc3 (.func (.func 58) ⟨[]⟩ ⟨[]⟩) Hx5 fun r10 Hx11 => K (!r10) Hx11) (K false Hx5)) (K false H)
theorem patch_paths.vc (lp1 : Option Addr) (ll2 : Nat) (lc3 : Nat) (H : Hp) (K : Bool → Hp → Prop) : vcFun prog tab patch_paths.ann none Try.f31 (List.map AV.v [.slice lp1 ll2 lc3]) H (fun v H2 _ => liftB v fun r19 => K r19 H2) = patch_paths.F lp1 ll2 lc3 H K := by kernel_rfl
theorem patch_paths.of (lp1 : Option Addr) (ll2 : Nat) (lc3 : Nat) {H : Hp} {K : Bool → Hp → Prop} (h : patch_paths.F lp1 ll2 lc3 H K) : patch_paths.C lp1 ll2 lc3 H K := CallH_of_vc mix tabOk Try.func31 (by kernel_rfl) ((patch_paths.vc lp1 ll2 lc3 H K).mpr h)
-- cento/patch.deps (32)
def patch_deps.ann : Ann := { loops := [], pars := [] }
def patch_deps.k1 (K : Bool → Hp → Prop) (bq14 : Nat) (Hx51 : Hp) : Prop :=
  ldI .u32 (rd Hx51 bq14 0) fun x52 => ldL (rd Hx51 bq14 1) fun xp53 xl54 xc55 => ldL (rd Hx51 bq14 2) fun xp56 xl57 xc58 => ldL (rd Hx51 bq14 3) fun xp59 xl60 xc61 => ldL (rd Hx51 bq14 4) fun xp62 xl63 xc64 => patch_Needs.C x52 xp53 xl54 xc55 xp56 xl57 xc58 xp59 xl60 xc61 xp62 xl63 xc64 Hx51 fun rp65 rl66 rc67 Hx68 => slices_ContainsFunc_uint32_uint32.C rp65 rl66 rc67 (.func (.func 62) ⟨[]⟩ ⟨[.pointer (some ⟨bq14, 0, none⟩)]⟩) Hx68 fun r82 Hx83 => K (!r82) Hx83
def patch_deps.F (p1 : Int) (pp2 : Option Addr) (pl3 : Nat) (pc4 : Nat) (pp5 : Option Addr) (pl6 : Nat) (pc7 : Nat) (pp8 : Option Addr) (pl9 : Nat) (pc10 : Nat) (pp11 : Option Addr) (pl12 : Nat) (pc13 : Nat) (H : Hp) (K : Bool → Hp → Prop) : Prop :=
  NEW H [.int .u32 p1, .slice pp2 pl3 pc4, .slice pp5 pl6 pc7, .slice pp8 pl9 pc10, .slice pp11 pl12 pc13] fun bq14 Hx15 => ldL (rd Hx15 bq14 1) fun _ xl17 _ => bc ((decide ((60 : Int) < ((xl17 : Nat) : Int)))) (K false Hx15) (ldL (rd Hx15 bq14 1) fun xp20 xl21 xc22 => patch_rises_uint32.C xp20 xl21 xc22 (.func (.func 60) ⟨[]⟩ ⟨[]⟩) Hx15 fun r23 Hx24 => bc ((!r23)) (K false Hx24) (ldL (rd Hx24 bq14 1) fun xp30 xl31 xc32 => slices_Contains_uint32_uint32.C xp30 xl31 xc32 (0 : Int) Hx24 fun r33 Hx34 => bc (r33) (K false Hx34) (ldL (rd Hx34 bq14 1) fun xp40 xl41 xc42 => ldI .u32 (rd Hx34 bq14 0) fun x43 => slices_Contains_uint32_uint32.C xp40 xl41 xc42 x43 Hx34 fun r44 Hx45 => bc (r44) (K false Hx45) (patch_deps.k1 K bq14 Hx45))))
theorem patch_deps.vc (p1 : Int) (pp2 : Option Addr) (pl3 : Nat) (pc4 : Nat) (pp5 : Option Addr) (pl6 : Nat) (pc7 : Nat) (pp8 : Option Addr) (pl9 : Nat) (pc10 : Nat) (pp11 : Option Addr) (pl12 : Nat) (pc13 : Nat) (H : Hp) (K : Bool → Hp → Prop) : vcFun prog tab patch_deps.ann none Try.f32 (List.map AV.v [.agg ⟨[.int .u32 p1, .slice pp2 pl3 pc4, .slice pp5 pl6 pc7, .slice pp8 pl9 pc10, .slice pp11 pl12 pc13]⟩]) H (fun v H2 _ => liftB v fun r89 => K r89 H2) = patch_deps.F p1 pp2 pl3 pc4 pp5 pl6 pc7 pp8 pl9 pc10 pp11 pl12 pc13 H K := by kernel_rfl
theorem patch_deps.of (p1 : Int) (pp2 : Option Addr) (pl3 : Nat) (pc4 : Nat) (pp5 : Option Addr) (pl6 : Nat) (pc7 : Nat) (pp8 : Option Addr) (pl9 : Nat) (pc10 : Nat) (pp11 : Option Addr) (pl12 : Nat) (pc13 : Nat) {H : Hp} {K : Bool → Hp → Prop} (h : patch_deps.F p1 pp2 pl3 pc4 pp5 pl6 pc7 pp8 pl9 pc10 pp11 pl12 pc13 H K) : patch_deps.C p1 pp2 pl3 pc4 pp5 pl6 pc7 pp8 pl9 pc10 pp11 pl12 pc13 H K := CallH_of_vc mix tabOk Try.func32 (by kernel_rfl) ((patch_deps.vc p1 pp2 pl3 pc4 pp5 pl6 pc7 pp8 pl9 pc10 pp11 pl12 pc13 H K).mpr h)
-- slices.ContainsFunc[[]string,string] (33)
def slices_ContainsFunc_string_string.ann : Ann := { loops := [], pars := [] }
def slices_ContainsFunc_string_string.F (sp1 : Option Addr) (sl2 : Nat) (sc3 : Nat) (f4 : Value) (H : Hp) (K : Bool → Hp → Prop) : Prop :=
  slices_IndexFunc_string_string.C sp1 sl2 sc3 (f4) H fun r5 Hx6 => K (decide ((0 : Int) ≤ r5)) Hx6
theorem slices_ContainsFunc_string_string.vc (sp1 : Option Addr) (sl2 : Nat) (sc3 : Nat) (f4 : Value) (H : Hp) (K : Bool → Hp → Prop) : vcFun prog tab slices_ContainsFunc_string_string.ann none Try.f33 (List.map AV.v [.slice sp1 sl2 sc3, f4]) H (fun v H2 _ => liftB v fun r12 => K r12 H2) = slices_ContainsFunc_string_string.F sp1 sl2 sc3 f4 H K := by kernel_rfl
theorem slices_ContainsFunc_string_string.of (sp1 : Option Addr) (sl2 : Nat) (sc3 : Nat) (f4 : Value) {H : Hp} {K : Bool → Hp → Prop} (h : slices_ContainsFunc_string_string.F sp1 sl2 sc3 f4 H K) : slices_ContainsFunc_string_string.C sp1 sl2 sc3 f4 H K := CallH_of_vc mix tabOk Try.func33 (by kernel_rfl) ((slices_ContainsFunc_string_string.vc sp1 sl2 sc3 f4 H K).mpr h)
-- cento/patch.Is$1 (34)
def patch_Is_1.ann : Ann := { loops := [], pars := [] }
def patch_Is_1.F (s1 : ByteArray) (cap2 : Nat) (H : Hp) (K : Bool → Hp → Prop) : Prop :=
  ldL (rd H cap2 3) fun xp3 xl4 xc5 => slices_Contains_string_string.C xp3 xl4 xc5 s1 H fun r6 Hx7 => K r6 Hx7
theorem patch_Is_1.vc (s1 : ByteArray) (cap2 : Nat) (H : Hp) (K : Bool → Hp → Prop) : vcFun prog tab patch_Is_1.ann none Try.f34 (List.map AV.v [.string s1, .pointer (some ⟨cap2, 0, none⟩)]) H (fun v H2 _ => liftB v fun r13 => K r13 H2) = patch_Is_1.F s1 cap2 H K := by kernel_rfl
theorem patch_Is_1.of (s1 : ByteArray) (cap2 : Nat) {H : Hp} {K : Bool → Hp → Prop} (h : patch_Is_1.F s1 cap2 H K) : patch_Is_1.C s1 cap2 H K := CallH_of_vc mix tabOk Try.func34 (by kernel_rfl) ((patch_Is_1.vc s1 cap2 H K).mpr h)
-- slices.Contains[[]string,string] (35)
def slices_Contains_string_string.ann : Ann := { loops := [], pars := [] }
def slices_Contains_string_string.F (sp1 : Option Addr) (sl2 : Nat) (sc3 : Nat) (v4 : ByteArray) (H : Hp) (K : Bool → Hp → Prop) : Prop :=
  slices_Index_string_string.C sp1 sl2 sc3 v4 H fun r5 Hx6 => K (decide ((0 : Int) ≤ r5)) Hx6
theorem slices_Contains_string_string.vc (sp1 : Option Addr) (sl2 : Nat) (sc3 : Nat) (v4 : ByteArray) (H : Hp) (K : Bool → Hp → Prop) : vcFun prog tab slices_Contains_string_string.ann none Try.f35 (List.map AV.v [.slice sp1 sl2 sc3, .string v4]) H (fun v H2 _ => liftB v fun r12 => K r12 H2) = slices_Contains_string_string.F sp1 sl2 sc3 v4 H K := by kernel_rfl
theorem slices_Contains_string_string.of (sp1 : Option Addr) (sl2 : Nat) (sc3 : Nat) (v4 : ByteArray) {H : Hp} {K : Bool → Hp → Prop} (h : slices_Contains_string_string.F sp1 sl2 sc3 v4 H K) : slices_Contains_string_string.C sp1 sl2 sc3 v4 H K := CallH_of_vc mix tabOk Try.func35 (by kernel_rfl) ((slices_Contains_string_string.vc sp1 sl2 sc3 v4 H K).mpr h)
-- cento/patch.IsPath (36)
def patch_IsPath.ann : Ann := { loops := [(0, [(14, .one (.int .i64))])], pars := [] }
def patch_IsPath.k1 (K : Bool → Hp → Prop) (s1 : ByteArray) (Hx4 : Hp) : Prop :=
  ∃ (Iq7 : Int → Hp → Prop) (mu8 : Int → Hp → Nat), Iq7 (0 : Int) Hx4 ∧ ∀ (t5 : Int) (Hx6 : Hp), Iq7 t5 Hx6 → bc ((decide (t5 < ((s1.size : Nat) : Int)))) (IDX t5 s1.size fun k9 => bc ((decide (((s1.data.toList.getD k9 0).toNat : Int) < (97 : Int)))) (bc ((decide (((s1.data.toList.getD k9 0).toNat : Int) < (48 : Int)))) (bc ((decide (¬ ((s1.data.toList.getD k9 0).toNat : Int) = (46 : Int)))) (bc ((decide (¬ ((s1.data.toList.getD k9 0).toNat : Int) = (47 : Int)))) (K false Hx6) (CHK .i64 (t5 + (1 : Int)) fun x11 => Iq7 x11 Hx6 ∧ mu8 x11 Hx6 < mu8 t5 Hx6)) (CHK .i64 (t5 + (1 : Int)) fun x13 => Iq7 x13 Hx6 ∧ mu8 x13 Hx6 < mu8 t5 Hx6)) (bc ((decide ((57 : Int) < ((s1.data.toList.getD k9 0).toNat : Int)))) (bc ((decide (¬ ((s1.data.toList.getD k9 0).toNat : Int) = (46 : Int)))) (bc ((decide (¬ ((s1.data.toList.getD k9 0).toNat : Int) = (47 : Int)))) (K false Hx6) (CHK .i64 (t5 + (1 : Int)) fun x16 => Iq7 x16 Hx6 ∧ mu8 x16 Hx6 < mu8 t5 Hx6)) (CHK .i64 (t5 + (1 : Int)) fun x18 => Iq7 x18 Hx6 ∧ mu8 x18 Hx6 < mu8 t5 Hx6)) (CHK .i64 (t5 + (1 : Int)) fun x20 => Iq7 x20 Hx6 ∧ mu8 x20 Hx6 < mu8 t5 Hx6))) (bc ((decide ((122 : Int) < ((s1.data.toList.getD k9 0).toNat : Int)))) (bc ((decide (((s1.data.toList.getD k9 0).toNat : Int) < (48 : Int)))) (bc ((decide (¬ ((s1.data.toList.getD k9 0).toNat : Int) = (46 : Int)))) (bc ((decide (¬ ((s1.data.toList.getD k9 0).toNat : Int) = (47 : Int)))) (K false Hx6) (CHK .i64 (t5 + (1 : Int)) fun x23 => Iq7 x23 Hx6 ∧ mu8 x23 Hx6 < mu8 t5 Hx6)) (CHK .i64 (t5 + (1 : Int)) fun x25 => Iq7 x25 Hx6 ∧ mu8 x25 Hx6 < mu8 t5 Hx6)) (bc ((decide ((57 : Int) < ((s1.data.toList.getD k9 0).toNat : Int)))) (bc ((decide (¬ ((s1.data.toList.getD k9 0).toNat : Int) = (46 : Int)))) (bc ((decide (¬ ((s1.data.toList.getD k9 0).toNat : Int) = (47 : Int)))) (K false Hx6) (CHK .i64 (t5 + (1 : Int)) fun x28 => Iq7 x28 Hx6 ∧ mu8 x28 Hx6 < mu8 t5 Hx6)) (CHK .i64 (t5 + (1 : Int)) fun x30 => Iq7 x30 Hx6 ∧ mu8 x30 Hx6 < mu8 t5 Hx6)) (CHK .i64 (t5 + (1 : Int)) fun x32 => Iq7 x32 Hx6 ∧ mu8 x32 Hx6 < mu8 t5 Hx6))) (CHK .i64 (t5 + (1 : Int)) fun x34 => Iq7 x34 Hx6 ∧ mu8 x34 Hx6 < mu8 t5 Hx6))) (K true Hx6)
def patch_IsPath.F (s1 : ByteArray) (H : Hp) (K : Bool → Hp → Prop) : Prop :=
  bc ((decide (s1 = (bs [])))) (K false H) (bc ((decide ((20 : Int) < ((s1.size : Nat) : Int)))) (K false H) (patch_IsPath.k1 K s1 H))
theorem patch_IsPath.vc (s1 : ByteArray) (H : Hp) (K : Bool → Hp → Prop) : vcFun prog tab patch_IsPath.ann none Try.f36 (List.map AV.v [.string s1]) H (fun v H2 _ => liftB v fun r37 => K r37 H2) = patch_IsPath.F s1 H K := by kernel_rfl
theorem patch_IsPath.of (s1 : ByteArray) {H : Hp} {K : Bool → Hp → Prop} (h : patch_IsPath.F s1 H K) : patch_IsPath.C s1 H K := CallH_of_vc mix tabOk Try.func36 (by kernel_rfl) ((patch_IsPath.vc s1 H K).mpr h)
-- cento/patch.isHunk (37)
def patch_isHunk.ann : Ann := { loops := [(0, [(34, .one (.int .i64))]), (2, [(45, .one (.int .i64))]), (4, [(72, .one (.int .i64))])], pars := [] }
def patch_isHunk.k1 (K : Bool → Hp → Prop) (bq13 : Nat) (bq15 : Nat) (bq17 : Nat) (Hx31 : Hp) : Prop :=
  ldL (rd Hx31 bq15 1) fun xp32 xl33 _ => ∃ (Iq37 : Int → Hp → Prop) (mu38 : Int → Hp → Nat), Iq37 (0 : Int) Hx31 ∧ ∀ (t35 : Int) (Hx36 : Hp), Iq37 t35 Hx36 → bc ((decide (t35 < ((xl33 : Nat) : Int)))) (IDX t35 xl33 fun k39 => NIL xp32 fun bq40 oq41 => ldS (rd Hx36 bq40 (oq41 + k39)) fun x42 => patch_isLine.C x42 Hx36 fun r43 Hx44 => bc ((!r43)) (K false Hx44) (CHK .i64 (t35 + (1 : Int)) fun x47 => Iq37 x47 Hx44 ∧ mu38 x47 Hx44 < mu38 t35 Hx36)) (ldL (rd Hx36 bq15 2) fun xp49 xl50 _ => ∃ (Iq54 : Int → Hp → Prop) (mu55 : Int → Hp → Nat), Iq54 (0 : Int) Hx36 ∧ ∀ (t52 : Int) (Hx53 : Hp), Iq54 t52 Hx53 → bc ((decide (t52 < ((xl50 : Nat) : Int)))) (IDX t52 xl50 fun k56 => NIL xp49 fun bq57 oq58 => ldI .u32 (rd Hx53 bq57 (oq58 + (k56 * 4))) fun x59 => ldI .i64 (rd Hx53 bq57 ((oq58 + (k56 * 4)) + 1)) fun x60 => ldI .u32 (rd Hx53 bq57 (((oq58 + (k56 * 4)) + 1) + 1)) fun x61 => ldI .i64 (rd Hx53 bq57 ((((oq58 + (k56 * 4)) + 1) + 1) + 1)) fun x62 => NEW Hx53 [.int .u32 (0 : Int), .int .i64 (0 : Int), .int .u32 (0 : Int), .int .i64 (0 : Int)] fun bq63 Hx64 => ST Hx64 bq63 0 (.int .u32 x59) fun Hx65 => ST Hx65 bq63 1 (.int .i64 x60) fun Hx66 => ST Hx66 bq63 2 (.int .u32 x61) fun Hx67 => ST Hx67 bq63 3 (.int .i64 x62) fun Hx68 => ldI .u32 (rd Hx68 bq63 0) fun x69 => ldI .i64 (rd Hx68 bq63 1) fun x70 => patch_isHunk_1.C x69 x70 bq13 bq17 bq15 Hx68 fun r71 Hx72 => bc ((!r71)) (K false Hx72) (ldI .u32 (rd Hx72 bq63 2) fun x76 => ldI .i64 (rd Hx72 bq63 3) fun x77 => patch_isHunk_1.C x76 x77 bq13 bq17 bq15 Hx72 fun r78 Hx79 => bc ((!r78)) (K false Hx79) (ldI .u32 (rd Hx79 bq63 0) fun x83 => ldI .i64 (rd Hx79 bq63 1) fun x84 => ldI .u32 (rd Hx79 bq63 2) fun x85 => ldI .i64 (rd Hx79 bq63 3) fun x86 => bc (((decide (x83 = x85)) && (decide (x84 = x86)))) (K false Hx79) (CHK .i64 (t52 + (1 : Int)) fun x88 => Iq54 x88 Hx79 ∧ mu55 x88 Hx79 < mu55 t52 Hx53)))) (ldL (rd Hx53 bq15 3) fun xp90 xl91 _ => ∃ (Iq95 : Int → Hp → Prop) (mu96 : Int → Hp → Nat), Iq95 (0 : Int) Hx53 ∧ ∀ (t93 : Int) (Hx94 : Hp), Iq95 t93 Hx94 → bc ((decide (t93 < ((xl91 : Nat) : Int)))) (IDX t93 xl91 fun k97 => NIL xp90 fun bq98 oq99 => ldI .u32 (rd Hx94 bq98 (oq99 + (k97 * 2))) fun x100 => ldI .i64 (rd Hx94 bq98 ((oq99 + (k97 * 2)) + 1)) fun x101 => NEW Hx94 [.int .u32 (0 : Int), .int .i64 (0 : Int)] fun bq102 Hx103 => ST Hx103 bq102 0 (.int .u32 x100) fun Hx104 => ST Hx104 bq102 1 (.int .i64 x101) fun Hx105 => ldI .u32 (rd Hx105 bq102 0) fun x106 => ldI .i64 (rd Hx105 bq102 1) fun x107 => patch_isHunk_1.C x106 x107 bq13 bq17 bq15 Hx105 fun r108 Hx109 => bc ((!r108)) (K false Hx109) (ldI .u32 (rd Hx109 bq102 0) fun x113 => ldI .u32 (rd Hx109 bq13 0) fun x114 => bc ((decide (x113 = x114))) (K false Hx109) (CHK .i64 (t93 + (1 : Int)) fun x116 => Iq95 x116 Hx109 ∧ mu96 x116 Hx109 < mu96 t93 Hx94))) (ldL (rd Hx94 bq15 2) fun xp118 xl119 xc120 => patch_rises_api_Edge.C xp118 xl119 xc120 (.func (.func 68) ⟨[]⟩ ⟨[]⟩) Hx94 fun r121 Hx122 => bc (r121) (ldL (rd Hx122 bq15 3) fun xp127 xl128 xc129 => patch_rises_api_LineID.C xp127 xl128 xc129 (.func (.func 70) ⟨[]⟩ ⟨[]⟩) Hx122 fun r130 Hx131 => K r130 Hx131) (K false Hx122))))
def patch_isHunk.F (id1 : Int) (h2 : ByteArray) (hp3 : Option Addr) (hl4 : Nat) (hc5 : Nat) (hp6 : Option Addr) (hl7 : Nat) (hc8 : Nat) (hp9 : Option Addr) (hl10 : Nat) (hc11 : Nat) (fromq12 : Int) (H : Hp) (K : Bool → Hp → Prop) : Prop :=
  NEW H [.int .u32 id1] fun bq13 Hx14 => NEW Hx14 [.string h2, .slice hp3 hl4 hc5, .slice hp6 hl7 hc8, .slice hp9 hl10 hc11] fun bq15 Hx16 => NEW Hx16 [.int .i64 fromq12] fun bq17 Hx18 => ldL (rd Hx18 bq15 1) fun _ xl20 _ => bc ((decide ((40 : Int) < ((xl20 : Nat) : Int)))) (K false Hx18) (ldL (rd Hx18 bq15 2) fun _ xl24 _ => bc ((decide ((80 : Int) < ((xl24 : Nat) : Int)))) (K false Hx18) (ldL (rd Hx18 bq15 3) fun _ xl28 _ => bc ((decide ((40 : Int) < ((xl28 : Nat) : Int)))) (K false Hx18) (patch_isHunk.k1 K bq13 bq15 bq17 Hx18)))
theorem patch_isHunk.vc (id1 : Int) (h2 : ByteArray) (hp3 : Option Addr) (hl4 : Nat) (hc5 : Nat) (hp6 : Option Addr) (hl7 : Nat) (hc8 : Nat) (hp9 : Option Addr) (hl10 : Nat) (hc11 : Nat) (fromq12 : Int) (H : Hp) (K : Bool → Hp → Prop) : vcFun prog tab patch_isHunk.ann none Try.f37 (List.map AV.v [.int .u32 id1, .agg ⟨[.string h2, .slice hp3 hl4 hc5, .slice hp6 hl7 hc8, .slice hp9 hl10 hc11]⟩, .int .i64 fromq12]) H (fun v H2 _ => liftB v fun r138 => K r138 H2) = patch_isHunk.F id1 h2 hp3 hl4 hc5 hp6 hl7 hc8 hp9 hl10 hc11 fromq12 H K := by kernel_rfl
theorem patch_isHunk.of (id1 : Int) (h2 : ByteArray) (hp3 : Option Addr) (hl4 : Nat) (hc5 : Nat) (hp6 : Option Addr) (hl7 : Nat) (hc8 : Nat) (hp9 : Option Addr) (hl10 : Nat) (hc11 : Nat) (fromq12 : Int) {H : Hp} {K : Bool → Hp → Prop} (h : patch_isHunk.F id1 h2 hp3 hl4 hc5 hp6 hl7 hc8 hp9 hl10 hc11 fromq12 H K) : patch_isHunk.C id1 h2 hp3 hl4 hc5 hp6 hl7 hc8 hp9 hl10 hc11 fromq12 H K := CallH_of_vc mix tabOk Try.func37 (by kernel_rfl) ((patch_isHunk.vc id1 h2 hp3 hl4 hc5 hp6 hl7 hc8 hp9 hl10 hc11 fromq12 H K).mpr h)
-- slices.Equal[[]string,string] (38)
def slices_Equal_string_string.ann : Ann := { loops := [(0, [(13, .one (.int .i64))])], pars := [] }
def slices_Equal_string_string.F (sp1 : Option Addr) (sl2 : Nat) (_sc3 : Nat) (sp4 : Option Addr) (sl5 : Nat) (_sc6 : Nat) (H : Hp) (K : Bool → Hp → Prop) : Prop :=
  bc ((decide (¬ ((sl2 : Nat) : Int) = ((sl5 : Nat) : Int)))) (K false H) (∃ (Iq10 : Int → Hp → Prop) (mu11 : Int → Hp → Nat), Iq10 (0 : Int) H ∧ ∀ (t8 : Int) (Hx9 : Hp), Iq10 t8 Hx9 → bc ((decide (t8 < ((sl2 : Nat) : Int)))) (IDX t8 sl2 fun k12 => NIL sp1 fun bq13 oq14 => ldS (rd Hx9 bq13 (oq14 + k12)) fun x15 => IDX t8 sl5 fun k16 => NIL sp4 fun bq17 oq18 => ldS (rd Hx9 bq17 (oq18 + k16)) fun x19 => bc ((decide (¬ x15 = x19))) (K false Hx9) (CHK .i64 (t8 + (1 : Int)) fun x21 => Iq10 x21 Hx9 ∧ mu11 x21 Hx9 < mu11 t8 Hx9)) (K true Hx9))
theorem slices_Equal_string_string.vc (sp1 : Option Addr) (sl2 : Nat) (sc3 : Nat) (sp4 : Option Addr) (sl5 : Nat) (sc6 : Nat) (H : Hp) (K : Bool → Hp → Prop) : vcFun prog tab slices_Equal_string_string.ann none Try.f38 (List.map AV.v [.slice sp1 sl2 sc3, .slice sp4 sl5 sc6]) H (fun v H2 _ => liftB v fun r24 => K r24 H2) = slices_Equal_string_string.F sp1 sl2 sc3 sp4 sl5 sc6 H K := by kernel_rfl
theorem slices_Equal_string_string.of (sp1 : Option Addr) (sl2 : Nat) (sc3 : Nat) (sp4 : Option Addr) (sl5 : Nat) (sc6 : Nat) {H : Hp} {K : Bool → Hp → Prop} (h : slices_Equal_string_string.F sp1 sl2 sc3 sp4 sl5 sc6 H K) : slices_Equal_string_string.C sp1 sl2 sc3 sp4 sl5 sc6 H K := CallH_of_vc mix tabOk Try.func38 (by kernel_rfl) ((slices_Equal_string_string.vc sp1 sl2 sc3 sp4 sl5 sc6 H K).mpr h)
-- slices.EqualFunc[[]cento/api.Hunk,[]cento/api.Hunk,cento/api.Hunk,cento/api.Hunk] (39)
def slices_EqualFunc_api_Hunk_api_Hunk_api_Hunk_api_Hunk.ann : Ann := { loops := [(0, [(17, .one (.int .i64))])], pars := [] }
def slices_EqualFunc_api_Hunk_api_Hunk_api_Hunk_api_Hunk.F (sp1 : Option Addr) (sl2 : Nat) (_sc3 : Nat) (sp4 : Option Addr) (sl5 : Nat) (_sc6 : Nat) (eq7 : Value) (H : Hp) (K : Bool → Hp → Prop) : Prop :=
  bc ((decide (¬ ((sl2 : Nat) : Int) = ((sl5 : Nat) : Int)))) (K false H) (∃ (Iq11 : Int → Hp → Prop) (mu12 : Int → Hp → Nat), Iq11 (0 : Int) H ∧ ∀ (t9 : Int) (Hx10 : Hp), Iq11 t9 Hx10 → bc ((decide (t9 < ((sl2 : Nat) : Int)))) (IDX t9 sl2 fun k13 => NIL sp1 fun bq14 oq15 => ldS (rd Hx10 bq14 (oq15 + (k13 * 4))) fun x16 => ldL (rd Hx10 bq14 ((oq15 + (k13 * 4)) + 1)) fun xp17 xl18 xc19 => ldL (rd Hx10 bq14 (((oq15 + (k13 * 4)) + 1) + 1)) fun xp20 xl21 xc22 => ldL (rd Hx10 bq14 ((((oq15 + (k13 * 4)) + 1) + 1) + 1)) fun xp23 xl24 xc25 => NEW Hx10 [.string .empty, .slice none 0 0, .slice none 0 0, .slice none 0 0] fun bq26 Hx27 => ST Hx27 bq26 0 (.string x16) fun Hx28 => ST Hx28 bq26 1 (.slice xp17 xl18 xc19) fun Hx29 => ST Hx29 bq26 2 (.slice xp20 xl21 xc22) fun Hx30 => ST Hx30 bq26 3 (.slice xp23 xl24 xc25) fun Hx31 => IDX t9 sl5 fun k32 => NIL sp4 fun bq33 oq34 => ldS (rd Hx31 bq33 (oq34 + (k32 * 4))) fun x35 => ldL (rd Hx31 bq33 ((oq34 + (k32 * 4)) + 1)) fun xp36 xl37 xc38 => ldL (rd Hx31 bq33 (((oq34 + (k32 * 4)) + 1) + 1)) fun xp39 xl40 xc41 => ldL (rd Hx31 bq33 ((((oq34 + (k32 * 4)) + 1) + 1) + 1)) fun xp42 xl43 xc44 => NEW Hx31 [.string .empty, .slice none 0 0, .slice none 0 0, .slice none 0 0] fun bq45 Hx46 => ST Hx46 bq45 0 (.string x35) fun Hx47 => ST Hx47 bq45 1 (.slice xp36 xl37 xc38) fun Hx48 => ST Hx48 bq45 2 (.slice xp39 xl40 xc41) fun Hx49 => ST Hx49 bq45 3 (.slice xp42 xl43 xc44) fun Hx50 => ldS (rd Hx50 bq26 0) fun x51 => ldL (rd Hx50 bq26 1) fun xp52 xl53 xc54 => ldL (rd Hx50 bq26 2) fun xp55 xl56 xc57 => ldL (rd Hx50 bq26 3) fun xp58 xl59 xc60 => ldS (rd Hx50 bq45 0) fun x61 => ldL (rd Hx50 bq45 1) fun xp62 xl63 xc64 => ldL (rd Hx50 bq45 2) fun xp65 xl66 xc67 => ldL (rd Hx50 bq45 3) fun xp68 xl69 xc70 => CallV prog eq7 [.agg ⟨[.string x51, .slice xp52 xl53 xc54, .slice xp55 xl56 xc57, .slice xp58 xl59 xc60]⟩, .agg ⟨[.string x61, .slice xp62 xl63 xc64, .slice xp65 xl66 xc67, .slice xp68 xl69 xc70]⟩] Hx50 fun v Hx72 => liftB v fun r71 => bc ((!r71)) (K false Hx72) (CHK .i64 (t9 + (1 : Int)) fun x74 => Iq11 x74 Hx72 ∧ mu12 x74 Hx72 < mu12 t9 Hx10)) (K true Hx10))
theorem slices_EqualFunc_api_Hunk_api_Hunk_api_Hunk_api_Hunk.vc (sp1 : Option Addr) (sl2 : Nat) (sc3 : Nat) (sp4 : Option Addr) (sl5 : Nat) (sc6 : Nat) (eq7 : Value) (H : Hp) (K : Bool → Hp → Prop) : vcFun prog tab slices_EqualFunc_api_Hunk_api_Hunk_api_Hunk_api_Hunk.ann none Try.f39 (List.map AV.v [.slice sp1 sl2 sc3, .slice sp4 sl5 sc6, eq7]) H (fun v H2 _ => liftB v fun r77 => K r77 H2) = slices_EqualFunc_api_Hunk_api_Hunk_api_Hunk_api_Hunk.F sp1 sl2 sc3 sp4 sl5 sc6 eq7 H K := by kernel_rfl
theorem slices_EqualFunc_api_Hunk_api_Hunk_api_Hunk_api_Hunk.of (sp1 : Option Addr) (sl2 : Nat) (sc3 : Nat) (sp4 : Option Addr) (sl5 : Nat) (sc6 : Nat) (eq7 : Value) {H : Hp} {K : Bool → Hp → Prop} (h : slices_EqualFunc_api_Hunk_api_Hunk_api_Hunk_api_Hunk.F sp1 sl2 sc3 sp4 sl5 sc6 eq7 H K) : slices_EqualFunc_api_Hunk_api_Hunk_api_Hunk_api_Hunk.C sp1 sl2 sc3 sp4 sl5 sc6 eq7 H K := CallH_of_vc mix tabOk Try.func39 (by kernel_rfl) ((slices_EqualFunc_api_Hunk_api_Hunk_api_Hunk_api_Hunk.vc sp1 sl2 sc3 sp4 sl5 sc6 eq7 H K).mpr h)
-- cento/patch.sameHunk (40)
def patch_sameHunk.ann : Ann := { loops := [], pars := [] }
def patch_sameHunk.F (a1 : ByteArray) (ap2 : Option Addr) (al3 : Nat) (ac4 : Nat) (ap5 : Option Addr) (al6 : Nat) (ac7 : Nat) (ap8 : Option Addr) (al9 : Nat) (ac10 : Nat) (bq11 : ByteArray) (bp12 : Option Addr) (bl13 : Nat) (bcq14 : Nat) (bp15 : Option Addr) (bl16 : Nat) (bcq17 : Nat) (bp18 : Option Addr) (bl19 : Nat) (bcq20 : Nat) (H : Hp) (K : Bool → Hp → Prop) : Prop :=
  NEW H [.string a1, .slice ap2 al3 ac4, .slice ap5 al6 ac7, .slice ap8 al9 ac10] fun bq21 Hx22 => NEW Hx22 [.string bq11, .slice bp12 bl13 bcq14, .slice bp15 bl16 bcq17, .slice bp18 bl19 bcq20] fun bq23 Hx24 => ldS (rd Hx24 bq21 0) fun x25 => ldS (rd Hx24 bq23 0) fun x26 => bc ((decide (x25 = x26))) (ldL (rd Hx24 bq21 1) fun xp27 xl28 xc29 => ldL (rd Hx24 bq23 1) fun xp30 xl31 xc32 => slices_Equal_string_string.C xp27 xl28 xc29 xp30 xl31 xc32 Hx24 fun r33 Hx34 => bc (r33) (ldL (rd Hx34 bq21 2) fun xp41 xl42 xc43 => ldL (rd Hx34 bq23 2) fun xp44 xl45 xc46 => slices_Equal_api_Edge_api_Edge.C xp41 xl42 xc43 xp44 xl45 xc46 Hx34 fun r47 Hx48 => bc (r47) (ldL (rd Hx48 bq21 3) fun xp55 xl56 xc57 => ldL (rd Hx48 bq23 3) fun xp58 xl59 xc60 => slices_Equal_api_LineID_api_LineID.C xp55 xl56 xc57 xp58 xl59 xc60 Hx48 fun r61 Hx62 => K r61 Hx62) (K false Hx48)) (K false Hx34)) (K false Hx24)
theorem patch_sameHunk.vc (a1 : ByteArray) (ap2 : Option Addr) (al3 : Nat) (ac4 : Nat) (ap5 : Option Addr) (al6 : Nat) (ac7 : Nat) (ap8 : Option Addr) (al9 : Nat) (ac10 : Nat) (bq11 : ByteArray) (bp12 : Option Addr) (bl13 : Nat) (bcq14 : Nat) (bp15 : Option Addr) (bl16 : Nat) (bcq17 : Nat) (bp18 : Option Addr) (bl19 : Nat) (bcq20 : Nat) (H : Hp) (K : Bool → Hp → Prop) : vcFun prog tab patch_sameHunk.ann none Try.f40 (List.map AV.v [.agg ⟨[.string a1, .slice ap2 al3 ac4, .slice ap5 al6 ac7, .slice ap8 al9 ac10]⟩, .agg ⟨[.string bq11, .slice bp12 bl13 bcq14, .slice bp15 bl16 bcq17, .slice bp18 bl19 bcq20]⟩]) H (fun v H2 _ => liftB v fun r73 => K r73 H2) = patch_sameHunk.F a1 ap2 al3 ac4 ap5 al6 ac7 ap8 al9 ac10 bq11 bp12 bl13 bcq14 bp15 bl16 bcq17 bp18 bl19 bcq20 H K := by kernel_rfl
theorem patch_sameHunk.of (a1 : ByteArray) (ap2 : Option Addr) (al3 : Nat) (ac4 : Nat) (ap5 : Option Addr) (al6 : Nat) (ac7 : Nat) (ap8 : Option Addr) (al9 : Nat) (ac10 : Nat) (bq11 : ByteArray) (bp12 : Option Addr) (bl13 : Nat) (bcq14 : Nat) (bp15 : Option Addr) (bl16 : Nat) (bcq17 : Nat) (bp18 : Option Addr) (bl19 : Nat) (bcq20 : Nat) {H : Hp} {K : Bool → Hp → Prop} (h : patch_sameHunk.F a1 ap2 al3 ac4 ap5 al6 ac7 ap8 al9 ac10 bq11 bp12 bl13 bcq14 bp15 bl16 bcq17 bp18 bl19 bcq20 H K) : patch_sameHunk.C a1 ap2 al3 ac4 ap5 al6 ac7 ap8 al9 ac10 bq11 bp12 bl13 bcq14 bp15 bl16 bcq17 bp18 bl19 bcq20 H K := CallH_of_vc mix tabOk Try.func40 (by kernel_rfl) ((patch_sameHunk.vc a1 ap2 al3 ac4 ap5 al6 ac7 ap8 al9 ac10 bq11 bp12 bl13 bcq14 bp15 bl16 bcq17 bp18 bl19 bcq20 H K).mpr h)
-- slices.ContainsFunc[[]uint32,uint32] (41)
def slices_ContainsFunc_uint32_uint32.ann : Ann := { loops := [], pars := [] }
def slices_ContainsFunc_uint32_uint32.F (sp1 : Option Addr) (sl2 : Nat) (sc3 : Nat) (f4 : Value) (H : Hp) (K : Bool → Hp → Prop) : Prop :=
  slices_IndexFunc_uint32_uint32.C sp1 sl2 sc3 (f4) H fun r5 Hx6 => K (decide ((0 : Int) ≤ r5)) Hx6
theorem slices_ContainsFunc_uint32_uint32.vc (sp1 : Option Addr) (sl2 : Nat) (sc3 : Nat) (f4 : Value) (H : Hp) (K : Bool → Hp → Prop) : vcFun prog tab slices_ContainsFunc_uint32_uint32.ann none Try.f41 (List.map AV.v [.slice sp1 sl2 sc3, f4]) H (fun v H2 _ => liftB v fun r12 => K r12 H2) = slices_ContainsFunc_uint32_uint32.F sp1 sl2 sc3 f4 H K := by kernel_rfl
theorem slices_ContainsFunc_uint32_uint32.of (sp1 : Option Addr) (sl2 : Nat) (sc3 : Nat) (f4 : Value) {H : Hp} {K : Bool → Hp → Prop} (h : slices_ContainsFunc_uint32_uint32.F sp1 sl2 sc3 f4 H K) : slices_ContainsFunc_uint32_uint32.C sp1 sl2 sc3 f4 H K := CallH_of_vc mix tabOk Try.func41 (by kernel_rfl) ((slices_ContainsFunc_uint32_uint32.vc sp1 sl2 sc3 f4 H K).mpr h)
-- (*cento/store.Store).has$1 (42)
def store_Store_has_1.ann : Ann := { loops := [], pars := [] }
def store_Store_has_1.F (id1 : Int) (cap2 : Nat) (H : Hp) (K : Bool → Hp → Prop) : Prop :=
  ldP (rd H cap2 0) fun x3 => NIL x3 fun bq4 oq5 => ldM (rd H bq4 oq5) fun x6 => LKP prog 49 x6 (.int .u32 id1) true H fun v => tupV v fun vs => d2 vs fun wv0 wv1 => aggV wv0 fun cs => d5 cs fun wwv00 wwv01 wwv02 wwv03 wwv04 => liftI .u32 wwv00 fun x7 => liftL wwv01 fun xp8 xl9 xc10 => liftL wwv02 fun xp11 xl12 xc13 => liftL wwv03 fun xp14 xl15 xc16 => liftL wwv04 fun xp17 xl18 xc19 => liftB wv1 fun x20 => NEW H [.int .u32 (0 : Int), .slice none 0 0, .slice none 0 0, .slice none 0 0, .slice none 0 0] fun bq21 Hx22 => ST Hx22 bq21 0 (.int .u32 x7) fun Hx23 => ST Hx23 bq21 1 (.slice xp8 xl9 xc10) fun Hx24 => ST Hx24 bq21 2 (.slice xp11 xl12 xc13) fun Hx25 => ST Hx25 bq21 3 (.slice xp14 xl15 xc16) fun Hx26 => ST Hx26 bq21 4 (.slice xp17 xl18 xc19) fun Hx27 => K (!x20) Hx27
theorem store_Store_has_1.vc (id1 : Int) (cap2 : Nat) (H : Hp) (K : Bool → Hp → Prop) : vcFun prog tab store_Store_has_1.ann none Try.f42 (List.map AV.v [.int .u32 id1, .pointer (some ⟨cap2, 0, none⟩)]) H (fun v H2 _ => liftB v fun r29 => K r29 H2) = store_Store_has_1.F id1 cap2 H K := by kernel_rfl
theorem store_Store_has_1.of (id1 : Int) (cap2 : Nat) {H : Hp} {K : Bool → Hp → Prop} (h : store_Store_has_1.F id1 cap2 H K) : store_Store_has_1.C id1 cap2 H K := CallH_of_vc mix tabOk Try.func42 (by kernel_rfl) ((store_Store_has_1.vc id1 cap2 H K).mpr h)
-- slices.Clone[[]uint32,uint32] (43)
def slices_Clone_uint32_uint32.ann : Ann := { loops := [], pars := [] }
def slices_Clone_uint32_uint32.F (sp1 : Option Addr) (sl2 : Nat) (sc3 : Nat) (H : Hp) (K : Option Addr → Nat → Nat → Hp → Prop) : Prop :=
  bc ((decide (sp1 = none))) (K none 0 0 H) (NEW H ([]) fun bq7 Hx8 => APP Hx8 te_uint32 (some ⟨bq7, 0, none⟩) 0 0 (.slice sp1 sl2 sc3) fun xp9 xl10 xc11 Hx12 => K xp9 xl10 xc11 Hx12)
theorem slices_Clone_uint32_uint32.vc (sp1 : Option Addr) (sl2 : Nat) (sc3 : Nat) (H : Hp) (K : Option Addr → Nat → Nat → Hp → Prop) : vcFun prog tab slices_Clone_uint32_uint32.ann none Try.f43 (List.map AV.v [.slice sp1 sl2 sc3]) H (fun v H2 _ => liftL v fun rp16 rl17 rc18 => K rp16 rl17 rc18 H2) = slices_Clone_uint32_uint32.F sp1 sl2 sc3 H K := by kernel_rfl
theorem slices_Clone_uint32_uint32.of (sp1 : Option Addr) (sl2 : Nat) (sc3 : Nat) {H : Hp} {K : Option Addr → Nat → Nat → Hp → Prop} (h : slices_Clone_uint32_uint32.F sp1 sl2 sc3 H K) : slices_Clone_uint32_uint32.C sp1 sl2 sc3 H K := CallH_of_vc mix tabOk Try.func43 (by kernel_rfl) ((slices_Clone_uint32_uint32.vc sp1 sl2 sc3 H K).mpr h)
-- slices.Clone[[]string,string] (44)
def slices_Clone_string_string.ann : Ann := { loops := [], pars := [] }
def slices_Clone_string_string.F (sp1 : Option Addr) (sl2 : Nat) (sc3 : Nat) (H : Hp) (K : Option Addr → Nat → Nat → Hp → Prop) : Prop :=
  bc ((decide (sp1 = none))) (K none 0 0 H) (NEW H ([]) fun bq7 Hx8 => APP Hx8 te_string (some ⟨bq7, 0, none⟩) 0 0 (.slice sp1 sl2 sc3) fun xp9 xl10 xc11 Hx12 => K xp9 xl10 xc11 Hx12)
theorem slices_Clone_string_string.vc (sp1 : Option Addr) (sl2 : Nat) (sc3 : Nat) (H : Hp) (K : Option Addr → Nat → Nat → Hp → Prop) : vcFun prog tab slices_Clone_string_string.ann none Try.f44 (List.map AV.v [.slice sp1 sl2 sc3]) H (fun v H2 _ => liftL v fun rp16 rl17 rc18 => K rp16 rl17 rc18 H2) = slices_Clone_string_string.F sp1 sl2 sc3 H K := by kernel_rfl
theorem slices_Clone_string_string.of (sp1 : Option Addr) (sl2 : Nat) (sc3 : Nat) {H : Hp} {K : Option Addr → Nat → Nat → Hp → Prop} (h : slices_Clone_string_string.F sp1 sl2 sc3 H K) : slices_Clone_string_string.C sp1 sl2 sc3 H K := CallH_of_vc mix tabOk Try.func44 (by kernel_rfl) ((slices_Clone_string_string.vc sp1 sl2 sc3 H K).mpr h)
-- slices.Clone[[]cento/api.Hunk,cento/api.Hunk] (45)
def slices_Clone_api_Hunk_api_Hunk.ann : Ann := { loops := [], pars := [] }
def slices_Clone_api_Hunk_api_Hunk.F (sp1 : Option Addr) (sl2 : Nat) (sc3 : Nat) (H : Hp) (K : Option Addr → Nat → Nat → Hp → Prop) : Prop :=
  bc ((decide (sp1 = none))) (K none 0 0 H) (NEW H ([]) fun bq7 Hx8 => APP Hx8 te_api_Hunk (some ⟨bq7, 0, none⟩) 0 0 (.slice sp1 sl2 sc3) fun xp9 xl10 xc11 Hx12 => K xp9 xl10 xc11 Hx12)
theorem slices_Clone_api_Hunk_api_Hunk.vc (sp1 : Option Addr) (sl2 : Nat) (sc3 : Nat) (H : Hp) (K : Option Addr → Nat → Nat → Hp → Prop) : vcFun prog tab slices_Clone_api_Hunk_api_Hunk.ann none Try.f45 (List.map AV.v [.slice sp1 sl2 sc3]) H (fun v H2 _ => liftL v fun rp16 rl17 rc18 => K rp16 rl17 rc18 H2) = slices_Clone_api_Hunk_api_Hunk.F sp1 sl2 sc3 H K := by kernel_rfl
theorem slices_Clone_api_Hunk_api_Hunk.of (sp1 : Option Addr) (sl2 : Nat) (sc3 : Nat) {H : Hp} {K : Option Addr → Nat → Nat → Hp → Prop} (h : slices_Clone_api_Hunk_api_Hunk.F sp1 sl2 sc3 H K) : slices_Clone_api_Hunk_api_Hunk.C sp1 sl2 sc3 H K := CallH_of_vc mix tabOk Try.func45 (by kernel_rfl) ((slices_Clone_api_Hunk_api_Hunk.vc sp1 sl2 sc3 H K).mpr h)
-- slices.Clone[[]cento/api.Edge,cento/api.Edge] (46)
def slices_Clone_api_Edge_api_Edge.ann : Ann := { loops := [], pars := [] }
def slices_Clone_api_Edge_api_Edge.F (sp1 : Option Addr) (sl2 : Nat) (sc3 : Nat) (H : Hp) (K : Option Addr → Nat → Nat → Hp → Prop) : Prop :=
  bc ((decide (sp1 = none))) (K none 0 0 H) (NEW H ([]) fun bq7 Hx8 => APP Hx8 te_api_Edge (some ⟨bq7, 0, none⟩) 0 0 (.slice sp1 sl2 sc3) fun xp9 xl10 xc11 Hx12 => K xp9 xl10 xc11 Hx12)
theorem slices_Clone_api_Edge_api_Edge.vc (sp1 : Option Addr) (sl2 : Nat) (sc3 : Nat) (H : Hp) (K : Option Addr → Nat → Nat → Hp → Prop) : vcFun prog tab slices_Clone_api_Edge_api_Edge.ann none Try.f46 (List.map AV.v [.slice sp1 sl2 sc3]) H (fun v H2 _ => liftL v fun rp16 rl17 rc18 => K rp16 rl17 rc18 H2) = slices_Clone_api_Edge_api_Edge.F sp1 sl2 sc3 H K := by kernel_rfl
theorem slices_Clone_api_Edge_api_Edge.of (sp1 : Option Addr) (sl2 : Nat) (sc3 : Nat) {H : Hp} {K : Option Addr → Nat → Nat → Hp → Prop} (h : slices_Clone_api_Edge_api_Edge.F sp1 sl2 sc3 H K) : slices_Clone_api_Edge_api_Edge.C sp1 sl2 sc3 H K := CallH_of_vc mix tabOk Try.func46 (by kernel_rfl) ((slices_Clone_api_Edge_api_Edge.vc sp1 sl2 sc3 H K).mpr h)
-- slices.Clone[[]cento/api.LineID,cento/api.LineID] (47)
def slices_Clone_api_LineID_api_LineID.ann : Ann := { loops := [], pars := [] }
def slices_Clone_api_LineID_api_LineID.F (sp1 : Option Addr) (sl2 : Nat) (sc3 : Nat) (H : Hp) (K : Option Addr → Nat → Nat → Hp → Prop) : Prop :=
  bc ((decide (sp1 = none))) (K none 0 0 H) (NEW H ([]) fun bq7 Hx8 => APP Hx8 te_api_LineID (some ⟨bq7, 0, none⟩) 0 0 (.slice sp1 sl2 sc3) fun xp9 xl10 xc11 Hx12 => K xp9 xl10 xc11 Hx12)
theorem slices_Clone_api_LineID_api_LineID.vc (sp1 : Option Addr) (sl2 : Nat) (sc3 : Nat) (H : Hp) (K : Option Addr → Nat → Nat → Hp → Prop) : vcFun prog tab slices_Clone_api_LineID_api_LineID.ann none Try.f47 (List.map AV.v [.slice sp1 sl2 sc3]) H (fun v H2 _ => liftL v fun rp16 rl17 rc18 => K rp16 rl17 rc18 H2) = slices_Clone_api_LineID_api_LineID.F sp1 sl2 sc3 H K := by kernel_rfl
theorem slices_Clone_api_LineID_api_LineID.of (sp1 : Option Addr) (sl2 : Nat) (sc3 : Nat) {H : Hp} {K : Option Addr → Nat → Nat → Hp → Prop} (h : slices_Clone_api_LineID_api_LineID.F sp1 sl2 sc3 H K) : slices_Clone_api_LineID_api_LineID.C sp1 sl2 sc3 H K := CallH_of_vc mix tabOk Try.func47 (by kernel_rfl) ((slices_Clone_api_LineID_api_LineID.vc sp1 sl2 sc3 H K).mpr h)
-- (*cento/store.Store).needed$1 (48)
def store_Store_needed_1.ann : Ann := { loops := [(0, [(5, .one .slice)])], pars := [] }
def store_Store_needed_1.F (cap2 : Nat) (cap3 : Nat) (H : Hp) (G : Int → Hp → (Al → Hp → Prop) → Prop) (K : Al → Hp → Prop) : Prop :=
  NEW H (mapV [] 0) fun bq4 Hx5 => ldL (rd Hx5 cap2 0) fun xp6 xl7 xc8 => slices_Clone_uint32_uint32.C xp6 xl7 xc8 Hx5 fun rp9 rl10 rc11 Hx12 => ∃ (Iq20 : Option Addr → Nat → Nat → Hp → Prop) (mu21 : Option Addr → Nat → Nat → Hp → Nat), Iq20 rp9 rl10 rc11 Hx12 ∧ ∀ (leftp16 : Option Addr) (leftl17 : Nat) (leftc18 : Nat) (Hx19 : Hp), Iq20 leftp16 leftl17 leftc18 Hx19 → bc ((decide ((0 : Int) < ((leftl17 : Nat) : Int)))) (CHK .i64 (((leftl17 : Nat) : Int) - (1 : Int)) fun x22 => IDX x22 leftl17 fun k23 => NIL leftp16 fun bq24 oq25 => ldI .u32 (rd Hx19 bq24 (oq25 + k23)) fun x26 => CHK .i64 (((leftl17 : Nat) : Int) - (1 : Int)) fun x27 => BND none (some x27) leftl17 leftc18 fun j28 k29 => LKP prog 85 (some bq4) (.int .u32 x26) false Hx19 fun v => liftB v fun x30 => bc (x30) (Iq20 (movA leftp16 j28 1 leftc18) (k29 - j28) (leftc18 - j28) Hx19 ∧ mu21 (movA leftp16 j28 1 leftc18) (k29 - j28) (leftc18 - j28) Hx19 < mu21 leftp16 leftl17 leftc18 Hx19) (MUP prog 85 (some bq4) (.int .u32 x26) (.bool true) Hx19 fun Hx34 => G x26 Hx34 fun al39 Hx37 => alC al39 (ldP (rd Hx37 cap3 0) fun x41 => NIL x41 fun bq42 oq43 => ldM (rd Hx37 bq42 oq43) fun x44 => LKP prog 49 x44 (.int .u32 x26) false Hx37 fun v => aggV v fun cs => d5 cs fun wv0 wv1 wv2 wv3 wv4 => liftI .u32 wv0 fun _ => liftL wv1 fun xp46 xl47 xc48 => liftL wv2 fun _ _ _ => liftL wv3 fun _ _ _ => liftL wv4 fun _ _ _ => APP Hx37 te_uint32 (movA leftp16 j28 1 leftc18) (k29 - j28) (leftc18 - j28) (.slice xp46 xl47 xc48) fun xp58 xl59 xc60 Hx61 => Iq20 xp58 xl59 xc60 Hx61 ∧ mu21 xp58 xl59 xc60 Hx61 < mu21 leftp16 leftl17 leftc18 Hx19) fun j35 up36 => K (.off j35 up36) Hx37)) (K .on Hx19)
theorem store_Store_needed_1.vc (Lq : Nat) (cap2 : Nat) (cap3 : Nat) (H : Hp) (G : Int → Hp → (Al → Hp → Prop) → Prop) (K : Al → Hp → Prop) : vcFun prog tab store_Store_needed_1.ann (some ⟨Lq, fun vals H Kb => d1 vals fun w0 => liftI .u32 w0 fun z65 => G z65 H Kb⟩) Try.f48 (List.map AV.v [] ++ (AV.Y :: List.map AV.v [.pointer (some ⟨cap2, 0, none⟩), .pointer (some ⟨cap3, 0, none⟩)])) H (fun _ H2 al => K al H2) = store_Store_needed_1.F cap2 cap3 H G K := by kernel_rfl
theorem store_Store_needed_1.of (cap2 : Nat) (cap3 : Nat) {H : Hp} {G : Int → Hp → (Al → Hp → Prop) → Prop} {K : Al → Hp → Prop} (h : store_Store_needed_1.F cap2 cap3 H G K) : store_Store_needed_1.I cap2 cap3 H G K := ITER_of_vc mix tabOk Try.func48 (by kernel_rfl) fun Lq => (store_Store_needed_1.vc Lq cap2 cap3 H G K).mpr h
-- slices.pdqsortOrdered[uint32] (49)
def slices_pdqsortOrdered_uint32.ann : Ann := { loops := [(0, [(1, .one (.int .i64)), (2, .one (.int .i64)), (3, .one (.int .i64)), (8, .one .bool), (9, .one .bool)])], pars := [] }
def slices_pdqsortOrdered_uint32.k4 (Hx12 : Hp) (Iq13 : Int → Int → Int → Bool → Bool → Hp → Prop) (a7 : Int) (bq8 : Int) (datac3 : Nat) (datal2 : Nat) (datap1 : Option Addr) (limit35 : Int) (limit9 : Int) (mu14 : Int → Int → Int → Bool → Bool → Hp → Nat) (pivot54 : Int) (wasBalanced10 : Bool) (wasPartitioned11 : Bool) (x15 : Int) (a91 : Int) (Hx92 : Hp) : Prop :=
  slices_partitionOrdered_uint32.C datap1 datal2 datac3 a91 bq8 pivot54 Hx92 fun r93 r94 Hx95 => CHK .i64 (r93 - a91) fun x102 => CHK .i64 (bq8 - r93) fun x103 => ¬ (8 : Int) = 0 ∧ (CHK .i64 (Int.tdiv x15 (8 : Int)) fun x104 => bc ((decide (x102 < x103))) (slices_pdqsortOrdered_uint32.C datap1 datal2 datac3 a91 r93 limit35 Hx95 fun Hx105 => CHK .i64 (r93 + (1 : Int)) fun x112 => Iq13 x112 bq8 limit35 (decide (x104 ≤ x102)) r94 Hx105 ∧ mu14 x112 bq8 limit35 (decide (x104 ≤ x102)) r94 Hx105 < mu14 a7 bq8 limit9 wasBalanced10 wasPartitioned11 Hx12) (CHK .i64 (r93 + (1 : Int)) fun x118 => slices_pdqsortOrdered_uint32.C datap1 datal2 datac3 x118 bq8 limit35 Hx95 fun Hx119 => Iq13 a91 r93 limit35 (decide (x104 ≤ x103)) r94 Hx119 ∧ mu14 a91 r93 limit35 (decide (x104 ≤ x103)) r94 Hx119 < mu14 a7 bq8 limit9 wasBalanced10 wasPartitioned11 Hx12))
def slices_pdqsortOrdered_uint32.k3 (Hx12 : Hp) (Iq13 : Int → Int → Int → Bool → Bool → Hp → Prop) (a7 : Int) (bq8 : Int) (datac3 : Nat) (datal2 : Nat) (datap1 : Option Addr) (limit35 : Int) (limit9 : Int) (mu14 : Int → Int → Int → Bool → Bool → Hp → Nat) (pivot54 : Int) (wasBalanced10 : Bool) (wasPartitioned11 : Bool) (x15 : Int) (Hx64 : Hp) : Prop :=
  bc ((decide ((0 : Int) < a7))) (CHK .i64 (a7 - (1 : Int)) fun x65 => IDX x65 datal2 fun k66 => NIL datap1 fun bq67 oq68 => ldI .u32 (rd Hx64 bq67 (oq68 + k66)) fun x69 => IDX pivot54 datal2 fun k70 => NIL datap1 fun bq71 oq72 => ldI .u32 (rd Hx64 bq71 (oq72 + k70)) fun x73 => cmp_Less_uint32.C x69 x73 Hx64 fun r74 Hx75 => bc ((!r74)) (slices_partitionEqualOrdered_uint32.C datap1 datal2 datac3 a7 bq8 pivot54 Hx75 fun r78 Hx79 => Iq13 r78 bq8 limit35 wasBalanced10 wasPartitioned11 Hx79 ∧ mu14 r78 bq8 limit35 wasBalanced10 wasPartitioned11 Hx79 < mu14 a7 bq8 limit9 wasBalanced10 wasPartitioned11 Hx12) (slices_pdqsortOrdered_uint32.k4 Hx12 Iq13 a7 bq8 datac3 datal2 datap1 limit35 limit9 mu14 pivot54 wasBalanced10 wasPartitioned11 x15 a7 Hx75)) (slices_pdqsortOrdered_uint32.k4 Hx12 Iq13 a7 bq8 datac3 datal2 datap1 limit35 limit9 mu14 pivot54 wasBalanced10 wasPartitioned11 x15 a7 Hx64)
def slices_pdqsortOrdered_uint32.k2 (Hx12 : Hp) (Iq13 : Int → Int → Int → Bool → Bool → Hp → Prop) (K : Hp → Prop) (a7 : Int) (bq8 : Int) (datac3 : Nat) (datal2 : Nat) (datap1 : Option Addr) (limit35 : Int) (limit9 : Int) (mu14 : Int → Int → Int → Bool → Bool → Hp → Nat) (wasBalanced10 : Bool) (wasPartitioned11 : Bool) (x15 : Int) (pivot54 : Int) (hint55 : Int) (Hx56 : Hp) : Prop :=
  bc (wasBalanced10) (bc (wasPartitioned11) (bc ((decide (hint55 = (1 : Int)))) (slices_partialInsertionSortOrdered_uint32.C datap1 datal2 datac3 a7 bq8 Hx56 fun r57 Hx58 => bc (r57) (K Hx58) (slices_pdqsortOrdered_uint32.k3 Hx12 Iq13 a7 bq8 datac3 datal2 datap1 limit35 limit9 mu14 pivot54 wasBalanced10 wasPartitioned11 x15 Hx58)) (slices_pdqsortOrdered_uint32.k3 Hx12 Iq13 a7 bq8 datac3 datal2 datap1 limit35 limit9 mu14 pivot54 wasBalanced10 wasPartitioned11 x15 Hx56)) (slices_pdqsortOrdered_uint32.k3 Hx12 Iq13 a7 bq8 datac3 datal2 datap1 limit35 limit9 mu14 pivot54 wasBalanced10 wasPartitioned11 x15 Hx56)) (slices_pdqsortOrdered_uint32.k3 Hx12 Iq13 a7 bq8 datac3 datal2 datap1 limit35 limit9 mu14 pivot54 wasBalanced10 wasPartitioned11 x15 Hx56)
def slices_pdqsortOrdered_uint32.k1 (Hx12 : Hp) (Iq13 : Int → Int → Int → Bool → Bool → Hp → Prop) (K : Hp → Prop) (a7 : Int) (bq8 : Int) (datac3 : Nat) (datal2 : Nat) (datap1 : Option Addr) (limit9 : Int) (mu14 : Int → Int → Int → Bool → Bool → Hp → Nat) (wasBalanced10 : Bool) (wasPartitioned11 : Bool) (x15 : Int) (limit35 : Int) (Hx36 : Hp) : Prop :=
  slices_choosePivotOrdered_uint32.C datap1 datal2 datac3 a7 bq8 Hx36 fun r37 r38 Hx39 => bc ((decide (r38 = (2 : Int)))) (slices_reverseRangeOrdered_uint32.C datap1 datal2 datac3 a7 bq8 Hx39 fun Hx45 => CHK .i64 (bq8 - (1 : Int)) fun x51 => CHK .i64 (r37 - a7) fun x52 => CHK .i64 (x51 - x52) fun x53 => slices_pdqsortOrdered_uint32.k2 Hx12 Iq13 K a7 bq8 datac3 datal2 datap1 limit35 limit9 mu14 wasBalanced10 wasPartitioned11 x15 x53 (1 : Int) Hx45) (slices_pdqsortOrdered_uint32.k2 Hx12 Iq13 K a7 bq8 datac3 datal2 datap1 limit35 limit9 mu14 wasBalanced10 wasPartitioned11 x15 r37 r38 Hx39)
def slices_pdqsortOrdered_uint32.F (datap1 : Option Addr) (datal2 : Nat) (datac3 : Nat) (a4 : Int) (bq5 : Int) (limit6 : Int) (H : Hp) (K : Hp → Prop) : Prop :=
  ∃ (Iq13 : Int → Int → Int → Bool → Bool → Hp → Prop) (mu14 : Int → Int → Int → Bool → Bool → Hp → Nat), Iq13 a4 bq5 limit6 true true H ∧ ∀ (a7 : Int) (bq8 : Int) (limit9 : Int) (wasBalanced10 : Bool) (wasPartitioned11 : Bool) (Hx12 : Hp), Iq13 a7 bq8 limit9 wasBalanced10 wasPartitioned11 Hx12 → CHK .i64 (bq8 - a7) fun x15 => bc ((decide (x15 ≤ (12 : Int)))) (slices_insertionSortOrdered_uint32.C datap1 datal2 datac3 a7 bq8 Hx12 fun Hx16 => K Hx16) (bc ((decide (limit9 = (0 : Int)))) (slices_heapSortOrdered_uint32.C datap1 datal2 datac3 a7 bq8 Hx12 fun Hx22 => K Hx22) (bc ((!wasBalanced10)) (slices_breakPatternsOrdered_uint32.C datap1 datal2 datac3 a7 bq8 Hx12 fun Hx28 => CHK .i64 (limit9 - (1 : Int)) fun x34 => slices_pdqsortOrdered_uint32.k1 Hx12 Iq13 K a7 bq8 datac3 datal2 datap1 limit9 mu14 wasBalanced10 wasPartitioned11 x15 x34 Hx28) (slices_pdqsortOrdered_uint32.k1 Hx12 Iq13 K a7 bq8 datac3 datal2 datap1 limit9 mu14 wasBalanced10 wasPartitioned11 x15 limit9 Hx12)))
theorem slices_pdqsortOrdered_uint32.vc (datap1 : Option Addr) (datal2 : Nat) (datac3 : Nat) (a4 : Int) (bq5 : Int) (limit6 : Int) (H : Hp) (K : Hp → Prop) : vcFun prog tab slices_pdqsortOrdered_uint32.ann none Try.f49 (List.map AV.v [.slice datap1 datal2 datac3, .int .i64 a4, .int .i64 bq5, .int .i64 limit6]) H (fun v H2 _ => tupV v fun vs => d0 vs (K H2)) = slices_pdqsortOrdered_uint32.F datap1 datal2 datac3 a4 bq5 limit6 H K := by kernel_rfl
theorem slices_pdqsortOrdered_uint32.of (datap1 : Option Addr) (datal2 : Nat) (datac3 : Nat) (a4 : Int) (bq5 : Int) (limit6 : Int) {H : Hp} {K : Hp → Prop} (h : slices_pdqsortOrdered_uint32.F datap1 datal2 datac3 a4 bq5 limit6 H K) : slices_pdqsortOrdered_uint32.C datap1 datal2 datac3 a4 bq5 limit6 H K := CallH_of_vc mix tabOk Try.func49 (by kernel_rfl) ((slices_pdqsortOrdered_uint32.vc datap1 datal2 datac3 a4 bq5 limit6 H K).mpr h)
-- math/bits.Len (50)
def math_bits_Len.ann : Ann := { loops := [], pars := [] }
def math_bits_Len.F (x1 : Int) (H : Hp) (K : Int → Hp → Prop) : Prop :=
  math_bits_Len64.C x1 H fun r2 Hx3 => K r2 Hx3
theorem math_bits_Len.vc (x1 : Int) (H : Hp) (K : Int → Hp → Prop) : vcFun prog tab math_bits_Len.ann none Try.f50 (List.map AV.v [.int .u64 x1]) H (fun v H2 _ => liftI .i64 v fun r6 => K r6 H2) = math_bits_Len.F x1 H K := by kernel_rfl
theorem math_bits_Len.of (x1 : Int) {H : Hp} {K : Int → Hp → Prop} (h : math_bits_Len.F x1 H K) : math_bits_Len.C x1 H K := CallH_of_vc mix tabOk Try.func50 (by kernel_rfl) ((math_bits_Len.vc x1 H K).mpr h)
-- slices.Compact[[]uint32,uint32] (51)
def slices_Compact_uint32_uint32.ann : Ann := { loops := [(0, [(3, .one (.int .i64))]), (2, [(3, .one (.int .i64)), (5, .one (.int .i64))])], pars := [] }
def slices_Compact_uint32_uint32.F (sp1 : Option Addr) (sl2 : Nat) (sc3 : Nat) (H : Hp) (K : Option Addr → Nat → Nat → Hp → Prop) : Prop :=
  bc ((decide (((sl2 : Nat) : Int) < (2 : Int)))) (K sp1 sl2 sc3 H) (∃ (Iq9 : Int → Hp → Prop) (mu10 : Int → Hp → Nat), Iq9 (1 : Int) H ∧ ∀ (k7 : Int) (Hx8 : Hp), Iq9 k7 Hx8 → bc ((decide (k7 < ((sl2 : Nat) : Int)))) (IDX k7 sl2 fun k11 => NIL sp1 fun bq12 oq13 => ldI .u32 (rd Hx8 bq12 (oq13 + k11)) fun x14 => CHK .i64 (k7 - (1 : Int)) fun x15 => IDX x15 sl2 fun k16 => NIL sp1 fun bq17 oq18 => ldI .u32 (rd Hx8 bq17 (oq18 + k16)) fun x19 => bc ((decide (x14 = x19))) (BND (some k7) none sl2 sc3 fun j20 k21 => ∃ (Iq25 : Int → Int → Hp → Prop) (mu26 : Int → Int → Hp → Nat), Iq25 k7 (1 : Int) Hx8 ∧ ∀ (k22 : Int) (k23 : Int) (Hx24 : Hp), Iq25 k22 k23 Hx24 → bc ((decide (k23 < (((k21 - j20) : Nat) : Int)))) (IDX k23 (k21 - j20) fun k27 => NIL (movA sp1 j20 1 sc3) fun bq28 oq29 => ldI .u32 (rd Hx24 bq28 (oq29 + k27)) fun x30 => CHK .i64 (k23 - (1 : Int)) fun x31 => IDX x31 (k21 - j20) fun k32 => NIL (movA sp1 j20 1 sc3) fun bq33 oq34 => ldI .u32 (rd Hx24 bq33 (oq34 + k32)) fun x35 => bc ((decide (¬ x30 = x35))) (IDX k23 (k21 - j20) fun k36 => NIL (movA sp1 j20 1 sc3) fun bq37 oq38 => ldI .u32 (rd Hx24 bq37 (oq38 + k36)) fun x39 => IDX k22 sl2 fun k40 => NIL sp1 fun bq41 oq42 => ST Hx24 bq41 (oq42 + k40) (.int .u32 x39) fun Hx43 => CHK .i64 (k22 + (1 : Int)) fun x44 => CHK .i64 (k23 + (1 : Int)) fun x45 => Iq25 x44 x45 Hx43 ∧ mu26 x44 x45 Hx43 < mu26 k22 k23 Hx24) (CHK .i64 (k23 + (1 : Int)) fun x48 => Iq25 k22 x48 Hx24 ∧ mu26 k22 x48 Hx24 < mu26 k22 k23 Hx24)) (BND (some k22) none sl2 sc3 fun j51 k52 => CLR Hx24 te_uint32 (movA sp1 j51 1 sc3) (k52 - j51) fun Hx53 => BND none (some k22) sl2 sc3 fun j54 k55 => K (movA sp1 j54 1 sc3) (k55 - j54) (sc3 - j54) Hx53)) (CHK .i64 (k7 + (1 : Int)) fun x59 => Iq9 x59 Hx8 ∧ mu10 x59 Hx8 < mu10 k7 Hx8)) (K sp1 sl2 sc3 Hx8))
theorem slices_Compact_uint32_uint32.vc (sp1 : Option Addr) (sl2 : Nat) (sc3 : Nat) (H : Hp) (K : Option Addr → Nat → Nat → Hp → Prop) : vcFun prog tab slices_Compact_uint32_uint32.ann none Try.f51 (List.map AV.v [.slice sp1 sl2 sc3]) H (fun v H2 _ => liftL v fun rp64 rl65 rc66 => K rp64 rl65 rc66 H2) = slices_Compact_uint32_uint32.F sp1 sl2 sc3 H K := by kernel_rfl
theorem slices_Compact_uint32_uint32.of (sp1 : Option Addr) (sl2 : Nat) (sc3 : Nat) {H : Hp} {K : Option Addr → Nat → Nat → Hp → Prop} (h : slices_Compact_uint32_uint32.F sp1 sl2 sc3 H K) : slices_Compact_uint32_uint32.C sp1 sl2 sc3 H K := CallH_of_vc mix tabOk Try.func51 (by kernel_rfl) ((slices_Compact_uint32_uint32.vc sp1 sl2 sc3 H K).mpr h)
-- slices.Collect[uint32] (52)
def slices_Collect_uint32.ann : Ann := { loops := [], pars := [] }
def slices_Collect_uint32.F (seq1 : Value) (H : Hp) (K : Option Addr → Nat → Nat → Hp → Prop) : Prop :=
  slices_AppendSeq_uint32_uint32.C none 0 0 (seq1) H fun rp2 rl3 rc4 Hx5 => K rp2 rl3 rc4 Hx5
theorem slices_Collect_uint32.vc (seq1 : Value) (H : Hp) (K : Option Addr → Nat → Nat → Hp → Prop) : vcFun prog tab slices_Collect_uint32.ann none Try.f52 (List.map AV.v [seq1]) H (fun v H2 _ => liftL v fun rp13 rl14 rc15 => K rp13 rl14 rc15 H2) = slices_Collect_uint32.F seq1 H K := by kernel_rfl
theorem slices_Collect_uint32.of (seq1 : Value) {H : Hp} {K : Option Addr → Nat → Nat → Hp → Prop} (h : slices_Collect_uint32.F seq1 H K) : slices_Collect_uint32.C seq1 H K := CallH_of_vc mix tabOk Try.func52 (by kernel_rfl) ((slices_Collect_uint32.vc seq1 H K).mpr h)
-- maps.Keys[map[uint32]cento/api.Patch,uint32,cento/api.Patch]$1 (53)
def maps_Keys_map_uint32_api_Patch_uint32_api_Patch_1.ann : Ann := { loops := [(0, [])], pars := [] }
def maps_Keys_map_uint32_api_Patch_uint32_api_Patch_1.F (cap2 : Nat) (H : Hp) (G : Int → Hp → (Al → Hp → Prop) → Prop) (K : Al → Hp → Prop) : Prop :=
  ldM (rd H cap2 0) fun x3 => RNG prog 49 x3 H fun bq4 Hx5 => ∃ (Iq7 : Hp → Prop) (mu8 : Hp → Nat), Iq7 Hx5 ∧ ∀  (Hx6 : Hp), Iq7 Hx6 → NXT prog bq4 0 Hx6 (fun Hx9 => K .on Hx9) fun _ Hx10 => ENT prog bq4 Hx10 fun wk11 _ => liftI .u32 wk11 fun x13 => G x13 Hx10 fun al18 Hx16 => alC al18 (Iq7 Hx16 ∧ mu8 Hx16 < mu8 Hx6) fun j14 up15 => K (.off j14 up15) Hx16
theorem maps_Keys_map_uint32_api_Patch_uint32_api_Patch_1.vc (Lq : Nat) (cap2 : Nat) (H : Hp) (G : Int → Hp → (Al → Hp → Prop) → Prop) (K : Al → Hp → Prop) : vcFun prog tab maps_Keys_map_uint32_api_Patch_uint32_api_Patch_1.ann (some ⟨Lq, fun vals H Kb => d1 vals fun w0 => liftI .u32 w0 fun z20 => G z20 H Kb⟩) Try.f53 (List.map AV.v [] ++ (AV.Y :: List.map AV.v [.pointer (some ⟨cap2, 0, none⟩)])) H (fun _ H2 al => K al H2) = maps_Keys_map_uint32_api_Patch_uint32_api_Patch_1.F cap2 H G K := by kernel_rfl
theorem maps_Keys_map_uint32_api_Patch_uint32_api_Patch_1.of (cap2 : Nat) {H : Hp} {G : Int → Hp → (Al → Hp → Prop) → Prop} {K : Al → Hp → Prop} (h : maps_Keys_map_uint32_api_Patch_uint32_api_Patch_1.F cap2 H G K) : maps_Keys_map_uint32_api_Patch_uint32_api_Patch_1.I cap2 H G K := ITER_of_vc mix tabOk Try.func53 (by kernel_rfl) fun Lq => (maps_Keys_map_uint32_api_Patch_uint32_api_Patch_1.vc Lq cap2 H G K).mpr h
-- slices.IndexFunc[[]uint32,uint32] (54)
def slices_IndexFunc_uint32_uint32.ann : Ann := { loops := [(0, [(8, .one (.int .i64))])], pars := [] }
def slices_IndexFunc_uint32_uint32.F (sp1 : Option Addr) (sl2 : Nat) (_sc3 : Nat) (f4 : Value) (H : Hp) (K : Int → Hp → Prop) : Prop :=
  ∃ (Iq7 : Int → Hp → Prop) (mu8 : Int → Hp → Nat), Iq7 (0 : Int) H ∧ ∀ (t5 : Int) (Hx6 : Hp), Iq7 t5 Hx6 → bc ((decide (t5 < ((sl2 : Nat) : Int)))) (IDX t5 sl2 fun k9 => NIL sp1 fun bq10 oq11 => ldI .u32 (rd Hx6 bq10 (oq11 + k9)) fun x12 => CallV prog f4 [.int .u32 x12] Hx6 fun v Hx14 => liftB v fun r13 => bc (r13) (K t5 Hx14) (CHK .i64 (t5 + (1 : Int)) fun x16 => Iq7 x16 Hx14 ∧ mu8 x16 Hx14 < mu8 t5 Hx6)) (K (-1 : Int) Hx6)
theorem slices_IndexFunc_uint32_uint32.vc (sp1 : Option Addr) (sl2 : Nat) (sc3 : Nat) (f4 : Value) (H : Hp) (K : Int → Hp → Prop) : vcFun prog tab slices_IndexFunc_uint32_uint32.ann none Try.f54 (List.map AV.v [.slice sp1 sl2 sc3, f4]) H (fun v H2 _ => liftI .i64 v fun r19 => K r19 H2) = slices_IndexFunc_uint32_uint32.F sp1 sl2 sc3 f4 H K := by kernel_rfl
theorem slices_IndexFunc_uint32_uint32.of (sp1 : Option Addr) (sl2 : Nat) (sc3 : Nat) (f4 : Value) {H : Hp} {K : Int → Hp → Prop} (h : slices_IndexFunc_uint32_uint32.F sp1 sl2 sc3 f4 H K) : slices_IndexFunc_uint32_uint32.C sp1 sl2 sc3 f4 H K := CallH_of_vc mix tabOk Try.func54 (by kernel_rfl) ((slices_IndexFunc_uint32_uint32.vc sp1 sl2 sc3 f4 H K).mpr h)
-- slices.Index[[]uint32,uint32] (55)
def slices_Index_uint32_uint32.ann : Ann := { loops := [(0, [(8, .one (.int .i64))])], pars := [] }
def slices_Index_uint32_uint32.F (sp1 : Option Addr) (sl2 : Nat) (_sc3 : Nat) (v4 : Int) (H : Hp) (K : Int → Hp → Prop) : Prop :=
  ∃ (Iq7 : Int → Hp → Prop) (mu8 : Int → Hp → Nat), Iq7 (0 : Int) H ∧ ∀ (t5 : Int) (Hx6 : Hp), Iq7 t5 Hx6 → bc ((decide (t5 < ((sl2 : Nat) : Int)))) (IDX t5 sl2 fun k9 => NIL sp1 fun bq10 oq11 => ldI .u32 (rd Hx6 bq10 (oq11 + k9)) fun x12 => bc ((decide (v4 = x12))) (K t5 Hx6) (CHK .i64 (t5 + (1 : Int)) fun x14 => Iq7 x14 Hx6 ∧ mu8 x14 Hx6 < mu8 t5 Hx6)) (K (-1 : Int) Hx6)
theorem slices_Index_uint32_uint32.vc (sp1 : Option Addr) (sl2 : Nat) (sc3 : Nat) (v4 : Int) (H : Hp) (K : Int → Hp → Prop) : vcFun prog tab slices_Index_uint32_uint32.ann none Try.f55 (List.map AV.v [.slice sp1 sl2 sc3, .int .u32 v4]) H (fun v H2 _ => liftI .i64 v fun r17 => K r17 H2) = slices_Index_uint32_uint32.F sp1 sl2 sc3 v4 H K := by kernel_rfl
theorem slices_Index_uint32_uint32.of (sp1 : Option Addr) (sl2 : Nat) (sc3 : Nat) (v4 : Int) {H : Hp} {K : Int → Hp → Prop} (h : slices_Index_uint32_uint32.F sp1 sl2 sc3 v4 H K) : slices_Index_uint32_uint32.C sp1 sl2 sc3 v4 H K := CallH_of_vc mix tabOk Try.func55 (by kernel_rfl) ((slices_Index_uint32_uint32.vc sp1 sl2 sc3 v4 H K).mpr h)
-- cento/patch.rises[string] (56)
def patch_rises_string.ann : Ann := { loops := [(0, [(5, .one (.int .i64))])], pars := [] }
def patch_rises_string.F (lp1 : Option Addr) (ll2 : Nat) (_lc3 : Nat) (compare4 : Value) (H : Hp) (K : Bool → Hp → Prop) : Prop :=
  ∃ (Iq7 : Int → Hp → Prop) (mu8 : Int → Hp → Nat), Iq7 (1 : Int) H ∧ ∀ (i5 : Int) (Hx6 : Hp), Iq7 i5 Hx6 → bc ((decide (i5 < ((ll2 : Nat) : Int)))) (CHK .i64 (i5 - (1 : Int)) fun x9 => IDX x9 ll2 fun k10 => NIL lp1 fun bq11 oq12 => ldS (rd Hx6 bq11 (oq12 + k10)) fun x13 => IDX i5 ll2 fun k14 => NIL lp1 fun bq15 oq16 => ldS (rd Hx6 bq15 (oq16 + k14)) fun x17 => CallV prog compare4 [.string x13, .string x17] Hx6 fun v Hx19 => liftI .i64 v fun r18 => bc ((decide ((0 : Int) ≤ r18))) (K false Hx19) (CHK .i64 (i5 + (1 : Int)) fun x21 => Iq7 x21 Hx19 ∧ mu8 x21 Hx19 < mu8 i5 Hx6)) (K true Hx6)
theorem patch_rises_string.vc (lp1 : Option Addr) (ll2 : Nat) (lc3 : Nat) (compare4 : Value) (H : Hp) (K : Bool → Hp → Prop) : vcFun prog tab patch_rises_string.ann none Try.f56 (List.map AV.v [.slice lp1 ll2 lc3, compare4]) H (fun v H2 _ => liftB v fun r24 => K r24 H2) = patch_rises_string.F lp1 ll2 lc3 compare4 H K := by kernel_rfl
theorem patch_rises_string.of (lp1 : Option Addr) (ll2 : Nat) (lc3 : Nat) (compare4 : Value) {H : Hp} {K : Bool → Hp → Prop} (h : patch_rises_string.F lp1 ll2 lc3 compare4 H K) : patch_rises_string.C lp1 ll2 lc3 compare4 H K := CallH_of_vc mix tabOk Try.func56 (by kernel_rfl) ((patch_rises_string.vc lp1 ll2 lc3 compare4 H K).mpr h)
-- cmp.Compare[string] (57)
def cmp_Compare_string.ann : Ann := { loops := [], pars := [] }
def cmp_Compare_string.F (x1 : ByteArray) (y2 : ByteArray) (H : Hp) (K : Int → Hp → Prop) : Prop :=
  cmp_isNaN_string.C x1 H fun r3 Hx4 => cmp_isNaN_string.C y2 Hx4 fun r6 Hx7 => bc (r3) (bc (r6) (K (0 : Int) Hx7) (K (-1 : Int) Hx7)) (bc (r6) (K (1 : Int) Hx7) (bc ((Op.bytesLess x1.toList y2.toList)) (K (-1 : Int) Hx7) (bc ((!((Op.bytesLess x1.toList y2.toList) || decide (x1 = y2)))) (K (1 : Int) Hx7) (K (0 : Int) Hx7))))
theorem cmp_Compare_string.vc (x1 : ByteArray) (y2 : ByteArray) (H : Hp) (K : Int → Hp → Prop) : vcFun prog tab cmp_Compare_string.ann none Try.f57 (List.map AV.v [.string x1, .string y2]) H (fun v H2 _ => liftI .i64 v fun r15 => K r15 H2) = cmp_Compare_string.F x1 y2 H K := by kernel_rfl
theorem cmp_Compare_string.of (x1 : ByteArray) (y2 : ByteArray) {H : Hp} {K : Int → Hp → Prop} (h : cmp_Compare_string.F x1 y2 H K) : cmp_Compare_string.C x1 y2 H K := CallH_of_vc mix tabOk Try.func57 (by kernel_rfl) ((cmp_Compare_string.vc x1 y2 H K).mpr h)
-- cento/patch.paths$1 (58)
def patch_paths_1.ann : Ann := { loops := [], pars := [] }
def patch_paths_1.F (s1 : ByteArray) (H : Hp) (K : Bool → Hp → Prop) : Prop :=
  patch_IsPath.C s1 H fun r2 Hx3 => K (!r2) Hx3
theorem patch_paths_1.vc (s1 : ByteArray) (H : Hp) (K : Bool → Hp → Prop) : vcFun prog tab patch_paths_1.ann none Try.f58 (List.map AV.v [.string s1]) H (fun v H2 _ => liftB v fun r6 => K r6 H2) = patch_paths_1.F s1 H K := by kernel_rfl
theorem patch_paths_1.of (s1 : ByteArray) {H : Hp} {K : Bool → Hp → Prop} (h : patch_paths_1.F s1 H K) : patch_paths_1.C s1 H K := CallH_of_vc mix tabOk Try.func58 (by kernel_rfl) ((patch_paths_1.vc s1 H K).mpr h)
-- cento/patch.rises[uint32] (59)
def patch_rises_uint32.ann : Ann := { loops := [(0, [(5, .one (.int .i64))])], pars := [] }
def patch_rises_uint32.F (lp1 : Option Addr) (ll2 : Nat) (_lc3 : Nat) (compare4 : Value) (H : Hp) (K : Bool → Hp → Prop) : Prop :=
  ∃ (Iq7 : Int → Hp → Prop) (mu8 : Int → Hp → Nat), Iq7 (1 : Int) H ∧ ∀ (i5 : Int) (Hx6 : Hp), Iq7 i5 Hx6 → bc ((decide (i5 < ((ll2 : Nat) : Int)))) (CHK .i64 (i5 - (1 : Int)) fun x9 => IDX x9 ll2 fun k10 => NIL lp1 fun bq11 oq12 => ldI .u32 (rd Hx6 bq11 (oq12 + k10)) fun x13 => IDX i5 ll2 fun k14 => NIL lp1 fun bq15 oq16 => ldI .u32 (rd Hx6 bq15 (oq16 + k14)) fun x17 => CallV prog compare4 [.int .u32 x13, .int .u32 x17] Hx6 fun v Hx19 => liftI .i64 v fun r18 => bc ((decide ((0 : Int) ≤ r18))) (K false Hx19) (CHK .i64 (i5 + (1 : Int)) fun x21 => Iq7 x21 Hx19 ∧ mu8 x21 Hx19 < mu8 i5 Hx6)) (K true Hx6)
theorem patch_rises_uint32.vc (lp1 : Option Addr) (ll2 : Nat) (lc3 : Nat) (compare4 : Value) (H : Hp) (K : Bool → Hp → Prop) : vcFun prog tab patch_rises_uint32.ann none Try.f59 (List.map AV.v [.slice lp1 ll2 lc3, compare4]) H (fun v H2 _ => liftB v fun r24 => K r24 H2) = patch_rises_uint32.F lp1 ll2 lc3 compare4 H K := by kernel_rfl
theorem patch_rises_uint32.of (lp1 : Option Addr) (ll2 : Nat) (lc3 : Nat) (compare4 : Value) {H : Hp} {K : Bool → Hp → Prop} (h : patch_rises_uint32.F lp1 ll2 lc3 compare4 H K) : patch_rises_uint32.C lp1 ll2 lc3 compare4 H K := CallH_of_vc mix tabOk Try.func59 (by kernel_rfl) ((patch_rises_uint32.vc lp1 ll2 lc3 compare4 H K).mpr h)
-- cmp.Compare[uint32] (60)
def cmp_Compare_uint32.ann : Ann := { loops := [], pars := [] }
def cmp_Compare_uint32.F (x1 : Int) (y2 : Int) (H : Hp) (K : Int → Hp → Prop) : Prop :=
  cmp_isNaN_uint32.C x1 H fun r3 Hx4 => cmp_isNaN_uint32.C y2 Hx4 fun r6 Hx7 => bc (r3) (bc (r6) (K (0 : Int) Hx7) (K (-1 : Int) Hx7)) (bc (r6) (K (1 : Int) Hx7) (bc ((decide (x1 < y2))) (K (-1 : Int) Hx7) (bc ((decide (y2 < x1))) (K (1 : Int) Hx7) (K (0 : Int) Hx7))))
theorem cmp_Compare_uint32.vc (x1 : Int) (y2 : Int) (H : Hp) (K : Int → Hp → Prop) : vcFun prog tab cmp_Compare_uint32.ann none Try.f60 (List.map AV.v [.int .u32 x1, .int .u32 y2]) H (fun v H2 _ => liftI .i64 v fun r15 => K r15 H2) = cmp_Compare_uint32.F x1 y2 H K := by kernel_rfl
theorem cmp_Compare_uint32.of (x1 : Int) (y2 : Int) {H : Hp} {K : Int → Hp → Prop} (h : cmp_Compare_uint32.F x1 y2 H K) : cmp_Compare_uint32.C x1 y2 H K := CallH_of_vc mix tabOk Try.func60 (by kernel_rfl) ((cmp_Compare_uint32.vc x1 y2 H K).mpr h)
-- cento/patch.Needs (61)
def patch_Needs.ann : Ann := { loops := [(0, [(3, .one .slice), (13, .one (.int .i64))]), (2, [(3, .one .slice), (20, .one (.int .i64))]), (4, [(3, .one .slice), (37, .one (.int .i64))])], pars := [] }
def patch_Needs.F (p1 : Int) (pp2 : Option Addr) (pl3 : Nat) (pc4 : Nat) (pp5 : Option Addr) (pl6 : Nat) (pc7 : Nat) (pp8 : Option Addr) (pl9 : Nat) (pc10 : Nat) (pp11 : Option Addr) (pl12 : Nat) (pc13 : Nat) (H : Hp) (K : Option Addr → Nat → Nat → Hp → Prop) : Prop :=
  NEW H [.int .u32 p1, .slice pp2 pl3 pc4, .slice pp5 pl6 pc7, .slice pp8 pl9 pc10, .slice pp11 pl12 pc13] fun bq14 Hx15 => ldL (rd Hx15 bq14 4) fun xp16 xl17 _ => ∃ (Iq24 : Option Addr → Nat → Nat → Int → Hp → Prop) (mu25 : Option Addr → Nat → Nat → Int → Hp → Nat), Iq24 none 0 0 (0 : Int) Hx15 ∧ ∀ (outp19 : Option Addr) (outl20 : Nat) (outc21 : Nat) (t22 : Int) (Hx23 : Hp), Iq24 outp19 outl20 outc21 t22 Hx23 → bc ((decide (t22 < ((xl17 : Nat) : Int)))) (IDX t22 xl17 fun k26 => NIL xp16 fun bq27 oq28 => ldS (rd Hx23 bq27 (oq28 + (k26 * 4))) fun x29 => ldL (rd Hx23 bq27 ((oq28 + (k26 * 4)) + 1)) fun xp30 xl31 xc32 => ldL (rd Hx23 bq27 (((oq28 + (k26 * 4)) + 1) + 1)) fun xp33 xl34 xc35 => ldL (rd Hx23 bq27 ((((oq28 + (k26 * 4)) + 1) + 1) + 1)) fun xp36 xl37 xc38 => NEW Hx23 [.string .empty, .slice none 0 0, .slice none 0 0, .slice none 0 0] fun bq39 Hx40 => ST Hx40 bq39 0 (.string x29) fun Hx41 => ST Hx41 bq39 1 (.slice xp30 xl31 xc32) fun Hx42 => ST Hx42 bq39 2 (.slice xp33 xl34 xc35) fun Hx43 => ST Hx43 bq39 3 (.slice xp36 xl37 xc38) fun Hx44 => ldL (rd Hx44 bq39 2) fun xp45 xl46 _ => ∃ (Iq53 : Option Addr → Nat → Nat → Int → Hp → Prop) (mu54 : Option Addr → Nat → Nat → Int → Hp → Nat), Iq53 outp19 outl20 outc21 (0 : Int) Hx44 ∧ ∀ (outp48 : Option Addr) (outl49 : Nat) (outc50 : Nat) (t51 : Int) (Hx52 : Hp), Iq53 outp48 outl49 outc50 t51 Hx52 → bc ((decide (t51 < ((xl46 : Nat) : Int)))) (IDX t51 xl46 fun k55 => NIL xp45 fun bq56 oq57 => ldI .u32 (rd Hx52 bq56 (oq57 + (k55 * 4))) fun x58 => ldI .i64 (rd Hx52 bq56 ((oq57 + (k55 * 4)) + 1)) fun x59 => ldI .u32 (rd Hx52 bq56 (((oq57 + (k55 * 4)) + 1) + 1)) fun x60 => ldI .i64 (rd Hx52 bq56 ((((oq57 + (k55 * 4)) + 1) + 1) + 1)) fun x61 => NEW Hx52 [.int .u32 (0 : Int), .int .i64 (0 : Int), .int .u32 (0 : Int), .int .i64 (0 : Int)] fun bq62 Hx63 => ST Hx63 bq62 0 (.int .u32 x58) fun Hx64 => ST Hx64 bq62 1 (.int .i64 x59) fun Hx65 => ST Hx65 bq62 2 (.int .u32 x60) fun Hx66 => ST Hx66 bq62 3 (.int .i64 x61) fun Hx67 => ldI .u32 (rd Hx67 bq62 0) fun x68 => ldI .u32 (rd Hx67 bq62 2) fun x69 => NEW Hx67 ([.int .u32 x68, .int .u32 x69]) fun bq70 Hx71 => APP Hx71 te_uint32 outp48 outl49 outc50 (.slice (some ⟨bq70, 0, none⟩) 2 2) fun xp72 xl73 xc74 Hx75 => CHK .i64 (t51 + (1 : Int)) fun x76 => Iq53 xp72 xl73 xc74 x76 Hx75 ∧ mu54 xp72 xl73 xc74 x76 Hx75 < mu54 outp48 outl49 outc50 t51 Hx52) (ldL (rd Hx52 bq39 3) fun xp81 xl82 _ => ∃ (Iq89 : Option Addr → Nat → Nat → Int → Hp → Prop) (mu90 : Option Addr → Nat → Nat → Int → Hp → Nat), Iq89 outp48 outl49 outc50 (0 : Int) Hx52 ∧ ∀ (outp84 : Option Addr) (outl85 : Nat) (outc86 : Nat) (t87 : Int) (Hx88 : Hp), Iq89 outp84 outl85 outc86 t87 Hx88 → bc ((decide (t87 < ((xl82 : Nat) : Int)))) (IDX t87 xl82 fun k91 => NIL xp81 fun bq92 oq93 => ldI .u32 (rd Hx88 bq92 (oq93 + (k91 * 2))) fun x94 => ldI .i64 (rd Hx88 bq92 ((oq93 + (k91 * 2)) + 1)) fun x95 => NEW Hx88 [.int .u32 (0 : Int), .int .i64 (0 : Int)] fun bq96 Hx97 => ST Hx97 bq96 0 (.int .u32 x94) fun Hx98 => ST Hx98 bq96 1 (.int .i64 x95) fun Hx99 => ldI .u32 (rd Hx99 bq96 0) fun x100 => NEW Hx99 ([.int .u32 x100]) fun bq101 Hx102 => APP Hx102 te_uint32 outp84 outl85 outc86 (.slice (some ⟨bq101, 0, none⟩) 1 1) fun xp103 xl104 xc105 Hx106 => CHK .i64 (t87 + (1 : Int)) fun x107 => Iq89 xp103 xl104 xc105 x107 Hx106 ∧ mu90 xp103 xl104 xc105 x107 Hx106 < mu90 outp84 outl85 outc86 t87 Hx88) (CHK .i64 (t22 + (1 : Int)) fun x112 => Iq24 outp84 outl85 outc86 x112 Hx88 ∧ mu25 outp84 outl85 outc86 x112 Hx88 < mu25 outp19 outl20 outc21 t22 Hx23))) (slices_DeleteFunc_uint32_uint32.C outp19 outl20 outc21 (.func (.func 87) ⟨[]⟩ ⟨[.pointer (some ⟨bq14, 0, none⟩)]⟩) Hx23 fun rp117 rl118 rc119 Hx120 => slices_Sort_uint32_uint32.C rp117 rl118 rc119 Hx120 fun Hx125 => slices_Compact_uint32_uint32.C rp117 rl118 rc119 Hx125 fun rp129 rl130 rc131 Hx132 => K rp129 rl130 rc131 Hx132)
theorem patch_Needs.vc (p1 : Int) (pp2 : Option Addr) (pl3 : Nat) (pc4 : Nat) (pp5 : Option Addr) (pl6 : Nat) (pc7 : Nat) (pp8 : Option Addr) (pl9 : Nat) (pc10 : Nat) (pp11 : Option Addr) (pl12 : Nat) (pc13 : Nat) (H : Hp) (K : Option Addr → Nat → Nat → Hp → Prop) : vcFun prog tab patch_Needs.ann none Try.f61 (List.map AV.v [.agg ⟨[.int .u32 p1, .slice pp2 pl3 pc4, .slice pp5 pl6 pc7, .slice pp8 pl9 pc10, .slice pp11 pl12 pc13]⟩]) H (fun v H2 _ => liftL v fun rp139 rl140 rc141 => K rp139 rl140 rc141 H2) = patch_Needs.F p1 pp2 pl3 pc4 pp5 pl6 pc7 pp8 pl9 pc10 pp11 pl12 pc13 H K := by kernel_rfl
theorem patch_Needs.of (p1 : Int) (pp2 : Option Addr) (pl3 : Nat) (pc4 : Nat) (pp5 : Option Addr) (pl6 : Nat) (pc7 : Nat) (pp8 : Option Addr) (pl9 : Nat) (pc10 : Nat) (pp11 : Option Addr) (pl12 : Nat) (pc13 : Nat) {H : Hp} {K : Option Addr → Nat → Nat → Hp → Prop} (h : patch_Needs.F p1 pp2 pl3 pc4 pp5 pl6 pc7 pp8 pl9 pc10 pp11 pl12 pc13 H K) : patch_Needs.C p1 pp2 pl3 pc4 pp5 pl6 pc7 pp8 pl9 pc10 pp11 pl12 pc13 H K := CallH_of_vc mix tabOk Try.func61 (by kernel_rfl) ((patch_Needs.vc p1 pp2 pl3 pc4 pp5 pl6 pc7 pp8 pl9 pc10 pp11 pl12 pc13 H K).mpr h)
-- cento/patch.deps$1 (62)
def patch_deps_1.ann : Ann := { loops := [], pars := [] }
def patch_deps_1.F (id1 : Int) (cap2 : Nat) (H : Hp) (K : Bool → Hp → Prop) : Prop :=
  ldL (rd H cap2 1) fun xp3 xl4 xc5 => slices_Contains_uint32_uint32.C xp3 xl4 xc5 id1 H fun r6 Hx7 => K (!r6) Hx7
theorem patch_deps_1.vc (id1 : Int) (cap2 : Nat) (H : Hp) (K : Bool → Hp → Prop) : vcFun prog tab patch_deps_1.ann none Try.f62 (List.map AV.v [.int .u32 id1, .pointer (some ⟨cap2, 0, none⟩)]) H (fun v H2 _ => liftB v fun r13 => K r13 H2) = patch_deps_1.F id1 cap2 H K := by kernel_rfl
theorem patch_deps_1.of (id1 : Int) (cap2 : Nat) {H : Hp} {K : Bool → Hp → Prop} (h : patch_deps_1.F id1 cap2 H K) : patch_deps_1.C id1 cap2 H K := CallH_of_vc mix tabOk Try.func62 (by kernel_rfl) ((patch_deps_1.vc id1 cap2 H K).mpr h)
-- slices.IndexFunc[[]string,string] (63)
def slices_IndexFunc_string_string.ann : Ann := { loops := [(0, [(8, .one (.int .i64))])], pars := [] }
def slices_IndexFunc_string_string.F (sp1 : Option Addr) (sl2 : Nat) (_sc3 : Nat) (f4 : Value) (H : Hp) (K : Int → Hp → Prop) : Prop :=
  ∃ (Iq7 : Int → Hp → Prop) (mu8 : Int → Hp → Nat), Iq7 (0 : Int) H ∧ ∀ (t5 : Int) (Hx6 : Hp), Iq7 t5 Hx6 → bc ((decide (t5 < ((sl2 : Nat) : Int)))) (IDX t5 sl2 fun k9 => NIL sp1 fun bq10 oq11 => ldS (rd Hx6 bq10 (oq11 + k9)) fun x12 => CallV prog f4 [.string x12] Hx6 fun v Hx14 => liftB v fun r13 => bc (r13) (K t5 Hx14) (CHK .i64 (t5 + (1 : Int)) fun x16 => Iq7 x16 Hx14 ∧ mu8 x16 Hx14 < mu8 t5 Hx6)) (K (-1 : Int) Hx6)
theorem slices_IndexFunc_string_string.vc (sp1 : Option Addr) (sl2 : Nat) (sc3 : Nat) (f4 : Value) (H : Hp) (K : Int → Hp → Prop) : vcFun prog tab slices_IndexFunc_string_string.ann none Try.f63 (List.map AV.v [.slice sp1 sl2 sc3, f4]) H (fun v H2 _ => liftI .i64 v fun r19 => K r19 H2) = slices_IndexFunc_string_string.F sp1 sl2 sc3 f4 H K := by kernel_rfl
theorem slices_IndexFunc_string_string.of (sp1 : Option Addr) (sl2 : Nat) (sc3 : Nat) (f4 : Value) {H : Hp} {K : Int → Hp → Prop} (h : slices_IndexFunc_string_string.F sp1 sl2 sc3 f4 H K) : slices_IndexFunc_string_string.C sp1 sl2 sc3 f4 H K := CallH_of_vc mix tabOk Try.func63 (by kernel_rfl) ((slices_IndexFunc_string_string.vc sp1 sl2 sc3 f4 H K).mpr h)
-- slices.Index[[]string,string] (64)
def slices_Index_string_string.ann : Ann := { loops := [(0, [(8, .one (.int .i64))])], pars := [] }
def slices_Index_string_string.F (sp1 : Option Addr) (sl2 : Nat) (_sc3 : Nat) (v4 : ByteArray) (H : Hp) (K : Int → Hp → Prop) : Prop :=
  ∃ (Iq7 : Int → Hp → Prop) (mu8 : Int → Hp → Nat), Iq7 (0 : Int) H ∧ ∀ (t5 : Int) (Hx6 : Hp), Iq7 t5 Hx6 → bc ((decide (t5 < ((sl2 : Nat) : Int)))) (IDX t5 sl2 fun k9 => NIL sp1 fun bq10 oq11 => ldS (rd Hx6 bq10 (oq11 + k9)) fun x12 => bc ((decide (v4 = x12))) (K t5 Hx6) (CHK .i64 (t5 + (1 : Int)) fun x14 => Iq7 x14 Hx6 ∧ mu8 x14 Hx6 < mu8 t5 Hx6)) (K (-1 : Int) Hx6)
theorem slices_Index_string_string.vc (sp1 : Option Addr) (sl2 : Nat) (sc3 : Nat) (v4 : ByteArray) (H : Hp) (K : Int → Hp → Prop) : vcFun prog tab slices_Index_string_string.ann none Try.f64 (List.map AV.v [.slice sp1 sl2 sc3, .string v4]) H (fun v H2 _ => liftI .i64 v fun r17 => K r17 H2) = slices_Index_string_string.F sp1 sl2 sc3 v4 H K := by kernel_rfl
theorem slices_Index_string_string.of (sp1 : Option Addr) (sl2 : Nat) (sc3 : Nat) (v4 : ByteArray) {H : Hp} {K : Int → Hp → Prop} (h : slices_Index_string_string.F sp1 sl2 sc3 v4 H K) : slices_Index_string_string.C sp1 sl2 sc3 v4 H K := CallH_of_vc mix tabOk Try.func64 (by kernel_rfl) ((slices_Index_string_string.vc sp1 sl2 sc3 v4 H K).mpr h)
-- cento/patch.isHunk$1 (65)
def patch_isHunk_1.ann : Ann := { loops := [], pars := [] }
def patch_isHunk_1.k1 (K : Bool → Hp → Prop) (bq6 : Nat) (own10 : Bool) (Hx11 : Hp) : Prop :=
  ldI .i64 (rd Hx11 bq6 1) fun x12 => bc ((decide ((0 : Int) ≤ x12))) (ldI .i64 (rd Hx11 bq6 1) fun x13 => bc ((decide (x13 < (40 : Int)))) (K own10 Hx11) (K false Hx11)) (K false Hx11)
def patch_isHunk_1.F (l1 : Int) (l2 : Int) (cap3 : Nat) (cap4 : Nat) (cap5 : Nat) (H : Hp) (K : Bool → Hp → Prop) : Prop :=
  NEW H [.int .u32 l1, .int .i64 l2] fun bq6 Hx7 => ldI .u32 (rd Hx7 bq6 0) fun x8 => ldI .u32 (rd Hx7 cap3 0) fun x9 => bc ((decide (¬ x8 = x9))) (patch_isHunk_1.k1 K bq6 true Hx7) (ldI .i64 (rd Hx7 bq6 1) fun x18 => ldI .i64 (rd Hx7 cap4 0) fun x19 => bc ((decide (x19 ≤ x18))) (ldI .i64 (rd Hx7 bq6 1) fun x20 => ldI .i64 (rd Hx7 cap4 0) fun x21 => ldL (rd Hx7 cap5 1) fun _ xl23 _ => CHK .i64 (x21 + ((xl23 : Nat) : Int)) fun x25 => patch_isHunk_1.k1 K bq6 (decide (x20 < x25)) Hx7) (patch_isHunk_1.k1 K bq6 false Hx7))
theorem patch_isHunk_1.vc (l1 : Int) (l2 : Int) (cap3 : Nat) (cap4 : Nat) (cap5 : Nat) (H : Hp) (K : Bool → Hp → Prop) : vcFun prog tab patch_isHunk_1.ann none Try.f65 (List.map AV.v [.agg ⟨[.int .u32 l1, .int .i64 l2]⟩, .pointer (some ⟨cap3, 0, none⟩), .pointer (some ⟨cap4, 0, none⟩), .pointer (some ⟨cap5, 0, none⟩)]) H (fun v H2 _ => liftB v fun r28 => K r28 H2) = patch_isHunk_1.F l1 l2 cap3 cap4 cap5 H K := by kernel_rfl
theorem patch_isHunk_1.of (l1 : Int) (l2 : Int) (cap3 : Nat) (cap4 : Nat) (cap5 : Nat) {H : Hp} {K : Bool → Hp → Prop} (h : patch_isHunk_1.F l1 l2 cap3 cap4 cap5 H K) : patch_isHunk_1.C l1 l2 cap3 cap4 cap5 H K := CallH_of_vc mix tabOk Try.func65 (by kernel_rfl) ((patch_isHunk_1.vc l1 l2 cap3 cap4 cap5 H K).mpr h)
-- cento/patch.isLine (66)
def patch_isLine.ann : Ann := { loops := [(0, [(14, .one (.int .i64))])], pars := [] }
def patch_isLine.k1 (K : Bool → Hp → Prop) (s1 : ByteArray) (Hx4 : Hp) : Prop :=
  CHK .i64 (((s1.size : Nat) : Int) - (1 : Int)) fun x5 => ∃ (Iq8 : Int → Hp → Prop) (mu9 : Int → Hp → Nat), Iq8 (0 : Int) Hx4 ∧ ∀ (t6 : Int) (Hx7 : Hp), Iq8 t6 Hx7 → bc ((decide (t6 < x5))) (IDX t6 s1.size fun k10 => bc ((decide (((s1.data.toList.getD k10 0).toNat : Int) = (10 : Int)))) (K false Hx7) (CHK .i64 (t6 + (1 : Int)) fun x12 => Iq8 x12 Hx7 ∧ mu9 x12 Hx7 < mu9 t6 Hx7)) (K true Hx7)
def patch_isLine.F (s1 : ByteArray) (H : Hp) (K : Bool → Hp → Prop) : Prop :=
  bc ((decide (s1 = (bs [])))) (K false H) (bc ((decide ((60 : Int) < ((s1.size : Nat) : Int)))) (K false H) (patch_isLine.k1 K s1 H))
theorem patch_isLine.vc (s1 : ByteArray) (H : Hp) (K : Bool → Hp → Prop) : vcFun prog tab patch_isLine.ann none Try.f66 (List.map AV.v [.string s1]) H (fun v H2 _ => liftB v fun r15 => K r15 H2) = patch_isLine.F s1 H K := by kernel_rfl
theorem patch_isLine.of (s1 : ByteArray) {H : Hp} {K : Bool → Hp → Prop} (h : patch_isLine.F s1 H K) : patch_isLine.C s1 H K := CallH_of_vc mix tabOk Try.func66 (by kernel_rfl) ((patch_isLine.vc s1 H K).mpr h)
-- cento/patch.rises[cento/api.Edge] (67)
def patch_rises_api_Edge.ann : Ann := { loops := [(0, [(5, .one (.int .i64))])], pars := [] }
def patch_rises_api_Edge.F (lp1 : Option Addr) (ll2 : Nat) (_lc3 : Nat) (compare4 : Value) (H : Hp) (K : Bool → Hp → Prop) : Prop :=
  ∃ (Iq7 : Int → Hp → Prop) (mu8 : Int → Hp → Nat), Iq7 (1 : Int) H ∧ ∀ (i5 : Int) (Hx6 : Hp), Iq7 i5 Hx6 → bc ((decide (i5 < ((ll2 : Nat) : Int)))) (CHK .i64 (i5 - (1 : Int)) fun x9 => IDX x9 ll2 fun k10 => NIL lp1 fun bq11 oq12 => ldI .u32 (rd Hx6 bq11 (oq12 + (k10 * 4))) fun x13 => ldI .i64 (rd Hx6 bq11 ((oq12 + (k10 * 4)) + 1)) fun x14 => ldI .u32 (rd Hx6 bq11 (((oq12 + (k10 * 4)) + 1) + 1)) fun x15 => ldI .i64 (rd Hx6 bq11 ((((oq12 + (k10 * 4)) + 1) + 1) + 1)) fun x16 => IDX i5 ll2 fun k17 => NIL lp1 fun bq18 oq19 => ldI .u32 (rd Hx6 bq18 (oq19 + (k17 * 4))) fun x20 => ldI .i64 (rd Hx6 bq18 ((oq19 + (k17 * 4)) + 1)) fun x21 => ldI .u32 (rd Hx6 bq18 (((oq19 + (k17 * 4)) + 1) + 1)) fun x22 => ldI .i64 (rd Hx6 bq18 ((((oq19 + (k17 * 4)) + 1) + 1) + 1)) fun x23 => CallV prog compare4 [.agg ⟨[.int .u32 x13, .int .i64 x14, .int .u32 x15, .int .i64 x16]⟩, .agg ⟨[.int .u32 x20, .int .i64 x21, .int .u32 x22, .int .i64 x23]⟩] Hx6 fun v Hx25 => liftI .i64 v fun r24 => bc ((decide ((0 : Int) ≤ r24))) (K false Hx25) (CHK .i64 (i5 + (1 : Int)) fun x27 => Iq7 x27 Hx25 ∧ mu8 x27 Hx25 < mu8 i5 Hx6)) (K true Hx6)
theorem patch_rises_api_Edge.vc (lp1 : Option Addr) (ll2 : Nat) (lc3 : Nat) (compare4 : Value) (H : Hp) (K : Bool → Hp → Prop) : vcFun prog tab patch_rises_api_Edge.ann none Try.f67 (List.map AV.v [.slice lp1 ll2 lc3, compare4]) H (fun v H2 _ => liftB v fun r30 => K r30 H2) = patch_rises_api_Edge.F lp1 ll2 lc3 compare4 H K := by kernel_rfl
theorem patch_rises_api_Edge.of (lp1 : Option Addr) (ll2 : Nat) (lc3 : Nat) (compare4 : Value) {H : Hp} {K : Bool → Hp → Prop} (h : patch_rises_api_Edge.F lp1 ll2 lc3 compare4 H K) : patch_rises_api_Edge.C lp1 ll2 lc3 compare4 H K := CallH_of_vc mix tabOk Try.func67 (by kernel_rfl) ((patch_rises_api_Edge.vc lp1 ll2 lc3 compare4 H K).mpr h)
-- cento/patch.CompareEdges (68)
def patch_CompareEdges.ann : Ann := { loops := [], pars := [] }
def patch_CompareEdges.F (a1 : Int) (a2 : Int) (a3 : Int) (a4 : Int) (bq5 : Int) (bq6 : Int) (bq7 : Int) (bq8 : Int) (H : Hp) (K : Int → Hp → Prop) : Prop :=
  NEW H [.int .u32 a1, .int .i64 a2, .int .u32 a3, .int .i64 a4] fun bq9 Hx10 => NEW Hx10 [.int .u32 bq5, .int .i64 bq6, .int .u32 bq7, .int .i64 bq8] fun bq11 Hx12 => ldI .u32 (rd Hx12 bq9 0) fun x13 => ldI .i64 (rd Hx12 bq9 1) fun x14 => ldI .u32 (rd Hx12 bq11 0) fun x15 => ldI .i64 (rd Hx12 bq11 1) fun x16 => ldI .u32 (rd Hx12 bq9 2) fun x17 => ldI .i64 (rd Hx12 bq9 3) fun x18 => ldI .u32 (rd Hx12 bq11 2) fun x19 => ldI .i64 (rd Hx12 bq11 3) fun x20 => patch_Compare.C x13 x14 x15 x16 Hx12 fun r21 Hx22 => rd Hx22 bq11 2 = some (.int .u32 x19) ∧ (rd Hx22 bq11 3 = some (.int .i64 x20) ∧ (rd Hx22 bq9 2 = some (.int .u32 x17) ∧ (rd Hx22 bq9 3 = some (.int .i64 x18) ∧ (patch_Compare.C x17 x18 x19 x20 Hx22 fun r27 Hx28 => NEW Hx28 ([.int .i64 r21, .int .i64 r27]) fun bq33 Hx34 => cmp_Or_int.C (some ⟨bq33, 0, none⟩) 2 2 Hx34 fun r35 Hx36 => K r35 Hx36))))
theorem patch_CompareEdges.vc (a1 : Int) (a2 : Int) (a3 : Int) (a4 : Int) (bq5 : Int) (bq6 : Int) (bq7 : Int) (bq8 : Int) (H : Hp) (K : Int → Hp → Prop) : vcFun prog tab patch_CompareEdges.ann none Try.f68 (List.map AV.v [.agg ⟨[.int .u32 a1, .int .i64 a2, .int .u32 a3, .int .i64 a4]⟩, .agg ⟨[.int .u32 bq5, .int .i64 bq6, .int .u32 bq7, .int .i64 bq8]⟩]) H (fun v H2 _ => liftI .i64 v fun r41 => K r41 H2) = patch_CompareEdges.F a1 a2 a3 a4 bq5 bq6 bq7 bq8 H K := by kernel_rfl
theorem patch_CompareEdges.of (a1 : Int) (a2 : Int) (a3 : Int) (a4 : Int) (bq5 : Int) (bq6 : Int) (bq7 : Int) (bq8 : Int) {H : Hp} {K : Int → Hp → Prop} (h : patch_CompareEdges.F a1 a2 a3 a4 bq5 bq6 bq7 bq8 H K) : patch_CompareEdges.C a1 a2 a3 a4 bq5 bq6 bq7 bq8 H K := CallH_of_vc mix tabOk Try.func68 (by kernel_rfl) ((patch_CompareEdges.vc a1 a2 a3 a4 bq5 bq6 bq7 bq8 H K).mpr h)
-- cento/patch.rises[cento/api.LineID] (69)
def patch_rises_api_LineID.ann : Ann := { loops := [(0, [(5, .one (.int .i64))])], pars := [] }
def patch_rises_api_LineID.F (lp1 : Option Addr) (ll2 : Nat) (_lc3 : Nat) (compare4 : Value) (H : Hp) (K : Bool → Hp → Prop) : Prop :=
  ∃ (Iq7 : Int → Hp → Prop) (mu8 : Int → Hp → Nat), Iq7 (1 : Int) H ∧ ∀ (i5 : Int) (Hx6 : Hp), Iq7 i5 Hx6 → bc ((decide (i5 < ((ll2 : Nat) : Int)))) (CHK .i64 (i5 - (1 : Int)) fun x9 => IDX x9 ll2 fun k10 => NIL lp1 fun bq11 oq12 => ldI .u32 (rd Hx6 bq11 (oq12 + (k10 * 2))) fun x13 => ldI .i64 (rd Hx6 bq11 ((oq12 + (k10 * 2)) + 1)) fun x14 => IDX i5 ll2 fun k15 => NIL lp1 fun bq16 oq17 => ldI .u32 (rd Hx6 bq16 (oq17 + (k15 * 2))) fun x18 => ldI .i64 (rd Hx6 bq16 ((oq17 + (k15 * 2)) + 1)) fun x19 => CallV prog compare4 [.agg ⟨[.int .u32 x13, .int .i64 x14]⟩, .agg ⟨[.int .u32 x18, .int .i64 x19]⟩] Hx6 fun v Hx21 => liftI .i64 v fun r20 => bc ((decide ((0 : Int) ≤ r20))) (K false Hx21) (CHK .i64 (i5 + (1 : Int)) fun x23 => Iq7 x23 Hx21 ∧ mu8 x23 Hx21 < mu8 i5 Hx6)) (K true Hx6)
theorem patch_rises_api_LineID.vc (lp1 : Option Addr) (ll2 : Nat) (lc3 : Nat) (compare4 : Value) (H : Hp) (K : Bool → Hp → Prop) : vcFun prog tab patch_rises_api_LineID.ann none Try.f69 (List.map AV.v [.slice lp1 ll2 lc3, compare4]) H (fun v H2 _ => liftB v fun r26 => K r26 H2) = patch_rises_api_LineID.F lp1 ll2 lc3 compare4 H K := by kernel_rfl
theorem patch_rises_api_LineID.of (lp1 : Option Addr) (ll2 : Nat) (lc3 : Nat) (compare4 : Value) {H : Hp} {K : Bool → Hp → Prop} (h : patch_rises_api_LineID.F lp1 ll2 lc3 compare4 H K) : patch_rises_api_LineID.C lp1 ll2 lc3 compare4 H K := CallH_of_vc mix tabOk Try.func69 (by kernel_rfl) ((patch_rises_api_LineID.vc lp1 ll2 lc3 compare4 H K).mpr h)
-- cento/patch.Compare (70)
def patch_Compare.ann : Ann := { loops := [], pars := [] }
def patch_Compare.F (a1 : Int) (a2 : Int) (bq3 : Int) (bq4 : Int) (H : Hp) (K : Int → Hp → Prop) : Prop :=
  NEW H [.int .u32 a1, .int .i64 a2] fun bq5 Hx6 => NEW Hx6 [.int .u32 bq3, .int .i64 bq4] fun bq7 Hx8 => ldI .u32 (rd Hx8 bq5 0) fun x9 => ldI .u32 (rd Hx8 bq7 0) fun x10 => ldI .i64 (rd Hx8 bq5 1) fun x11 => ldI .i64 (rd Hx8 bq7 1) fun x12 => cmp_Compare_uint32.C x9 x10 Hx8 fun r13 Hx14 => rd Hx14 bq7 1 = some (.int .i64 x12) ∧ (rd Hx14 bq5 1 = some (.int .i64 x11) ∧ (cmp_Compare_int.C x11 x12 Hx14 fun r17 Hx18 => NEW Hx18 ([.int .i64 r13, .int .i64 r17]) fun bq21 Hx22 => cmp_Or_int.C (some ⟨bq21, 0, none⟩) 2 2 Hx22 fun r23 Hx24 => K r23 Hx24))
theorem patch_Compare.vc (a1 : Int) (a2 : Int) (bq3 : Int) (bq4 : Int) (H : Hp) (K : Int → Hp → Prop) : vcFun prog tab patch_Compare.ann none Try.f70 (List.map AV.v [.agg ⟨[.int .u32 a1, .int .i64 a2]⟩, .agg ⟨[.int .u32 bq3, .int .i64 bq4]⟩]) H (fun v H2 _ => liftI .i64 v fun r29 => K r29 H2) = patch_Compare.F a1 a2 bq3 bq4 H K := by kernel_rfl
theorem patch_Compare.of (a1 : Int) (a2 : Int) (bq3 : Int) (bq4 : Int) {H : Hp} {K : Int → Hp → Prop} (h : patch_Compare.F a1 a2 bq3 bq4 H K) : patch_Compare.C a1 a2 bq3 bq4 H K := CallH_of_vc mix tabOk Try.func70 (by kernel_rfl) ((patch_Compare.vc a1 a2 bq3 bq4 H K).mpr h)
-- slices.Equal[[]cento/api.Edge,cento/api.Edge] (71)
def slices_Equal_api_Edge_api_Edge.ann : Ann := { loops := [(0, [(13, .one (.int .i64))])], pars := [] }
def slices_Equal_api_Edge_api_Edge.F (sp1 : Option Addr) (sl2 : Nat) (_sc3 : Nat) (sp4 : Option Addr) (sl5 : Nat) (_sc6 : Nat) (H : Hp) (K : Bool → Hp → Prop) : Prop :=
  bc ((decide (¬ ((sl2 : Nat) : Int) = ((sl5 : Nat) : Int)))) (K false H) (∃ (Iq10 : Int → Hp → Prop) (mu11 : Int → Hp → Nat), Iq10 (0 : Int) H ∧ ∀ (t8 : Int) (Hx9 : Hp), Iq10 t8 Hx9 → bc ((decide (t8 < ((sl2 : Nat) : Int)))) (IDX t8 sl2 fun k12 => NIL sp1 fun bq13 oq14 => ldI .u32 (rd Hx9 bq13 (oq14 + (k12 * 4))) fun x15 => ldI .i64 (rd Hx9 bq13 ((oq14 + (k12 * 4)) + 1)) fun x16 => ldI .u32 (rd Hx9 bq13 (((oq14 + (k12 * 4)) + 1) + 1)) fun x17 => ldI .i64 (rd Hx9 bq13 ((((oq14 + (k12 * 4)) + 1) + 1) + 1)) fun x18 => IDX t8 sl5 fun k19 => NIL sp4 fun bq20 oq21 => ldI .u32 (rd Hx9 bq20 (oq21 + (k19 * 4))) fun x22 => ldI .i64 (rd Hx9 bq20 ((oq21 + (k19 * 4)) + 1)) fun x23 => ldI .u32 (rd Hx9 bq20 (((oq21 + (k19 * 4)) + 1) + 1)) fun x24 => ldI .i64 (rd Hx9 bq20 ((((oq21 + (k19 * 4)) + 1) + 1) + 1)) fun x25 => bc ((!(((decide (x15 = x22)) && (decide (x16 = x23))) && ((decide (x17 = x24)) && (decide (x18 = x25)))))) (K false Hx9) (CHK .i64 (t8 + (1 : Int)) fun x27 => Iq10 x27 Hx9 ∧ mu11 x27 Hx9 < mu11 t8 Hx9)) (K true Hx9))
theorem slices_Equal_api_Edge_api_Edge.vc (sp1 : Option Addr) (sl2 : Nat) (sc3 : Nat) (sp4 : Option Addr) (sl5 : Nat) (sc6 : Nat) (H : Hp) (K : Bool → Hp → Prop) : vcFun prog tab slices_Equal_api_Edge_api_Edge.ann none Try.f71 (List.map AV.v [.slice sp1 sl2 sc3, .slice sp4 sl5 sc6]) H (fun v H2 _ => liftB v fun r30 => K r30 H2) = slices_Equal_api_Edge_api_Edge.F sp1 sl2 sc3 sp4 sl5 sc6 H K := by kernel_rfl
theorem slices_Equal_api_Edge_api_Edge.of (sp1 : Option Addr) (sl2 : Nat) (sc3 : Nat) (sp4 : Option Addr) (sl5 : Nat) (sc6 : Nat) {H : Hp} {K : Bool → Hp → Prop} (h : slices_Equal_api_Edge_api_Edge.F sp1 sl2 sc3 sp4 sl5 sc6 H K) : slices_Equal_api_Edge_api_Edge.C sp1 sl2 sc3 sp4 sl5 sc6 H K := CallH_of_vc mix tabOk Try.func71 (by kernel_rfl) ((slices_Equal_api_Edge_api_Edge.vc sp1 sl2 sc3 sp4 sl5 sc6 H K).mpr h)
-- slices.Equal[[]cento/api.LineID,cento/api.LineID] (72)
def slices_Equal_api_LineID_api_LineID.ann : Ann := { loops := [(0, [(13, .one (.int .i64))])], pars := [] }
def slices_Equal_api_LineID_api_LineID.F (sp1 : Option Addr) (sl2 : Nat) (_sc3 : Nat) (sp4 : Option Addr) (sl5 : Nat) (_sc6 : Nat) (H : Hp) (K : Bool → Hp → Prop) : Prop :=
  bc ((decide (¬ ((sl2 : Nat) : Int) = ((sl5 : Nat) : Int)))) (K false H) (∃ (Iq10 : Int → Hp → Prop) (mu11 : Int → Hp → Nat), Iq10 (0 : Int) H ∧ ∀ (t8 : Int) (Hx9 : Hp), Iq10 t8 Hx9 → bc ((decide (t8 < ((sl2 : Nat) : Int)))) (IDX t8 sl2 fun k12 => NIL sp1 fun bq13 oq14 => ldI .u32 (rd Hx9 bq13 (oq14 + (k12 * 2))) fun x15 => ldI .i64 (rd Hx9 bq13 ((oq14 + (k12 * 2)) + 1)) fun x16 => IDX t8 sl5 fun k17 => NIL sp4 fun bq18 oq19 => ldI .u32 (rd Hx9 bq18 (oq19 + (k17 * 2))) fun x20 => ldI .i64 (rd Hx9 bq18 ((oq19 + (k17 * 2)) + 1)) fun x21 => bc ((!((decide (x15 = x20)) && (decide (x16 = x21))))) (K false Hx9) (CHK .i64 (t8 + (1 : Int)) fun x23 => Iq10 x23 Hx9 ∧ mu11 x23 Hx9 < mu11 t8 Hx9)) (K true Hx9))
theorem slices_Equal_api_LineID_api_LineID.vc (sp1 : Option Addr) (sl2 : Nat) (sc3 : Nat) (sp4 : Option Addr) (sl5 : Nat) (sc6 : Nat) (H : Hp) (K : Bool → Hp → Prop) : vcFun prog tab slices_Equal_api_LineID_api_LineID.ann none Try.f72 (List.map AV.v [.slice sp1 sl2 sc3, .slice sp4 sl5 sc6]) H (fun v H2 _ => liftB v fun r26 => K r26 H2) = slices_Equal_api_LineID_api_LineID.F sp1 sl2 sc3 sp4 sl5 sc6 H K := by kernel_rfl
theorem slices_Equal_api_LineID_api_LineID.of (sp1 : Option Addr) (sl2 : Nat) (sc3 : Nat) (sp4 : Option Addr) (sl5 : Nat) (sc6 : Nat) {H : Hp} {K : Bool → Hp → Prop} (h : slices_Equal_api_LineID_api_LineID.F sp1 sl2 sc3 sp4 sl5 sc6 H K) : slices_Equal_api_LineID_api_LineID.C sp1 sl2 sc3 sp4 sl5 sc6 H K := CallH_of_vc mix tabOk Try.func72 (by kernel_rfl) ((slices_Equal_api_LineID_api_LineID.vc sp1 sl2 sc3 sp4 sl5 sc6 H K).mpr h)
-- slices.insertionSortOrdered[uint32] (73)
def slices_insertionSortOrdered_uint32.ann : Ann := { loops := [(0, [(6, .one (.int .i64))]), (2, [(7, .one (.int .i64))])], pars := [] }
def slices_insertionSortOrdered_uint32.k1 (Hx12 : Hp) (Iq13 : Int → Hp → Prop) (datal2 : Nat) (datap1 : Option Addr) (j11 : Int) (mu14 : Int → Hp → Nat) (Hx28 : Hp) : Prop :=
  CHK .i64 (j11 - (1 : Int)) fun x29 => CHK .i64 (j11 - (1 : Int)) fun x30 => IDX x30 datal2 fun k31 => NIL datap1 fun bq32 oq33 => ldI .u32 (rd Hx28 bq32 (oq33 + k31)) fun x34 => IDX j11 datal2 fun k35 => NIL datap1 fun bq36 oq37 => ldI .u32 (rd Hx28 bq36 (oq37 + k35)) fun x38 => IDX j11 datal2 fun k39 => NIL datap1 fun bq40 oq41 => ST Hx28 bq40 (oq41 + k39) (.int .u32 x34) fun Hx42 => IDX x29 datal2 fun k43 => NIL datap1 fun bq44 oq45 => ST Hx42 bq44 (oq45 + k43) (.int .u32 x38) fun Hx46 => CHK .i64 (j11 - (1 : Int)) fun x47 => Iq13 x47 Hx46 ∧ mu14 x47 Hx46 < mu14 j11 Hx12
def slices_insertionSortOrdered_uint32.F (datap1 : Option Addr) (datal2 : Nat) (_datac3 : Nat) (a4 : Int) (bq5 : Int) (H : Hp) (K : Hp → Prop) : Prop :=
  CHK .i64 (a4 + (1 : Int)) fun x6 => ∃ (Iq9 : Int → Hp → Prop) (mu10 : Int → Hp → Nat), Iq9 x6 H ∧ ∀ (i7 : Int) (Hx8 : Hp), Iq9 i7 Hx8 → bc ((decide (i7 < bq5))) (∃ (Iq13 : Int → Hp → Prop) (mu14 : Int → Hp → Nat), Iq13 i7 Hx8 ∧ ∀ (j11 : Int) (Hx12 : Hp), Iq13 j11 Hx12 → bc ((decide (a4 < j11))) (IDX j11 datal2 fun k15 => NIL datap1 fun bq16 oq17 => ldI .u32 (rd Hx12 bq16 (oq17 + k15)) fun x18 => CHK .i64 (j11 - (1 : Int)) fun x19 => IDX x19 datal2 fun k20 => NIL datap1 fun bq21 oq22 => ldI .u32 (rd Hx12 bq21 (oq22 + k20)) fun x23 => cmp_Less_uint32.C x18 x23 Hx12 fun r24 Hx25 => bc (r24) (slices_insertionSortOrdered_uint32.k1 Hx12 Iq13 datal2 datap1 j11 mu14 Hx25) (CHK .i64 (i7 + (1 : Int)) fun x49 => Iq9 x49 Hx25 ∧ mu10 x49 Hx25 < mu10 i7 Hx8)) (CHK .i64 (i7 + (1 : Int)) fun x51 => Iq9 x51 Hx12 ∧ mu10 x51 Hx12 < mu10 i7 Hx8)) (K Hx8)
theorem slices_insertionSortOrdered_uint32.vc (datap1 : Option Addr) (datal2 : Nat) (datac3 : Nat) (a4 : Int) (bq5 : Int) (H : Hp) (K : Hp → Prop) : vcFun prog tab slices_insertionSortOrdered_uint32.ann none Try.f73 (List.map AV.v [.slice datap1 datal2 datac3, .int .i64 a4, .int .i64 bq5]) H (fun v H2 _ => tupV v fun vs => d0 vs (K H2)) = slices_insertionSortOrdered_uint32.F datap1 datal2 datac3 a4 bq5 H K := by kernel_rfl
theorem slices_insertionSortOrdered_uint32.of (datap1 : Option Addr) (datal2 : Nat) (datac3 : Nat) (a4 : Int) (bq5 : Int) {H : Hp} {K : Hp → Prop} (h : slices_insertionSortOrdered_uint32.F datap1 datal2 datac3 a4 bq5 H K) : slices_insertionSortOrdered_uint32.C datap1 datal2 datac3 a4 bq5 H K := CallH_of_vc mix tabOk Try.func73 (by kernel_rfl) ((slices_insertionSortOrdered_uint32.vc datap1 datal2 datac3 a4 bq5 H K).mpr h)
-- slices.heapSortOrdered[uint32] (74)
def slices_heapSortOrdered_uint32.ann : Ann := { loops := [(0, [(9, .one (.int .i64))]), (2, [(10, .one (.int .i64))])], pars := [] }
def slices_heapSortOrdered_uint32.F (datap1 : Option Addr) (datal2 : Nat) (datac3 : Nat) (a4 : Int) (bq5 : Int) (H : Hp) (K : Hp → Prop) : Prop :=
  CHK .i64 (bq5 - a4) fun x6 => CHK .i64 (x6 - (1 : Int)) fun x7 => ¬ (2 : Int) = 0 ∧ (CHK .i64 (Int.tdiv x7 (2 : Int)) fun x8 => ∃ (Iq11 : Int → Hp → Prop) (mu12 : Int → Hp → Nat), Iq11 x8 H ∧ ∀ (i9 : Int) (Hx10 : Hp), Iq11 i9 Hx10 → bc ((decide ((0 : Int) ≤ i9))) (slices_siftDownOrdered_uint32.C datap1 datal2 datac3 i9 x6 a4 Hx10 fun Hx13 => CHK .i64 (i9 - (1 : Int)) fun x20 => Iq11 x20 Hx13 ∧ mu12 x20 Hx13 < mu12 i9 Hx10) (CHK .i64 (x6 - (1 : Int)) fun x22 => ∃ (Iq25 : Int → Hp → Prop) (mu26 : Int → Hp → Nat), Iq25 x22 Hx10 ∧ ∀ (i23 : Int) (Hx24 : Hp), Iq25 i23 Hx24 → bc ((decide ((0 : Int) ≤ i23))) (CHK .i64 (a4 + i23) fun x27 => CHK .i64 (a4 + i23) fun x28 => IDX x28 datal2 fun k29 => NIL datap1 fun bq30 oq31 => ldI .u32 (rd Hx24 bq30 (oq31 + k29)) fun x32 => IDX a4 datal2 fun k33 => NIL datap1 fun bq34 oq35 => ldI .u32 (rd Hx24 bq34 (oq35 + k33)) fun x36 => IDX a4 datal2 fun k37 => NIL datap1 fun bq38 oq39 => ST Hx24 bq38 (oq39 + k37) (.int .u32 x32) fun Hx40 => IDX x27 datal2 fun k41 => NIL datap1 fun bq42 oq43 => ST Hx40 bq42 (oq43 + k41) (.int .u32 x36) fun Hx44 => slices_siftDownOrdered_uint32.C datap1 datal2 datac3 (0 : Int) i23 a4 Hx44 fun Hx45 => CHK .i64 (i23 - (1 : Int)) fun x52 => Iq25 x52 Hx45 ∧ mu26 x52 Hx45 < mu26 i23 Hx24) (K Hx24)))
theorem slices_heapSortOrdered_uint32.vc (datap1 : Option Addr) (datal2 : Nat) (datac3 : Nat) (a4 : Int) (bq5 : Int) (H : Hp) (K : Hp → Prop) : vcFun prog tab slices_heapSortOrdered_uint32.ann none Try.f74 (List.map AV.v [.slice datap1 datal2 datac3, .int .i64 a4, .int .i64 bq5]) H (fun v H2 _ => tupV v fun vs => d0 vs (K H2)) = slices_heapSortOrdered_uint32.F datap1 datal2 datac3 a4 bq5 H K := by kernel_rfl
theorem slices_heapSortOrdered_uint32.of (datap1 : Option Addr) (datal2 : Nat) (datac3 : Nat) (a4 : Int) (bq5 : Int) {H : Hp} {K : Hp → Prop} (h : slices_heapSortOrdered_uint32.F datap1 datal2 datac3 a4 bq5 H K) : slices_heapSortOrdered_uint32.C datap1 datal2 datac3 a4 bq5 H K := CallH_of_vc mix tabOk Try.func74 (by kernel_rfl) ((slices_heapSortOrdered_uint32.vc datap1 datal2 datac3 a4 bq5 H K).mpr h)
-- slices.breakPatternsOrdered[uint32] (75)
def slices_breakPatternsOrdered_uint32.ann : Ann := { loops := [(0, [(9, .one (.int .i64))])], pars := [] }
def slices_breakPatternsOrdered_uint32.k1 (Hx18 : Hp) (Iq19 : Int → Hp → Prop) (a4 : Int) (datal2 : Nat) (datap1 : Option Addr) (idx17 : Int) (mu20 : Int → Hp → Nat) (other29 : Int) (Hx30 : Hp) : Prop :=
  CHK .i64 (a4 + other29) fun x31 => CHK .i64 (a4 + other29) fun x32 => IDX x32 datal2 fun k33 => NIL datap1 fun bq34 oq35 => ldI .u32 (rd Hx30 bq34 (oq35 + k33)) fun x36 => IDX idx17 datal2 fun k37 => NIL datap1 fun bq38 oq39 => ldI .u32 (rd Hx30 bq38 (oq39 + k37)) fun x40 => IDX idx17 datal2 fun k41 => NIL datap1 fun bq42 oq43 => ST Hx30 bq42 (oq43 + k41) (.int .u32 x36) fun Hx44 => IDX x31 datal2 fun k45 => NIL datap1 fun bq46 oq47 => ST Hx44 bq46 (oq47 + k45) (.int .u32 x40) fun Hx48 => CHK .i64 (idx17 + (1 : Int)) fun x49 => Iq19 x49 Hx48 ∧ mu20 x49 Hx48 < mu20 idx17 Hx18
def slices_breakPatternsOrdered_uint32.F (datap1 : Option Addr) (datal2 : Nat) (_datac3 : Nat) (a4 : Int) (bq5 : Int) (H : Hp) (K : Hp → Prop) : Prop :=
  CHK .i64 (bq5 - a4) fun x6 => bc ((decide ((8 : Int) ≤ x6))) (NEW H [.int .u64 (0 : Int)] fun bq7 Hx8 => ST Hx8 bq7 0 (.int .u64 (IntKind.wrap .u64 x6)) fun Hx9 => slices_nextPowerOfTwo.C x6 Hx9 fun r10 Hx11 => ¬ (4 : Int) = 0 ∧ (CHK .i64 (Int.tdiv x6 (4 : Int)) fun x13 => CHK .i64 (x13 * (2 : Int)) fun x14 => CHK .i64 (a4 + x14) fun x15 => CHK .i64 (x15 - (1 : Int)) fun x16 => ∃ (Iq19 : Int → Hp → Prop) (mu20 : Int → Hp → Nat), Iq19 x16 Hx11 ∧ ∀ (idx17 : Int) (Hx18 : Hp), Iq19 idx17 Hx18 → ¬ (4 : Int) = 0 ∧ (CHK .i64 (Int.tdiv x6 (4 : Int)) fun x21 => CHK .i64 (x21 * (2 : Int)) fun x22 => CHK .i64 (a4 + x22) fun x23 => CHK .i64 (x23 + (1 : Int)) fun x24 => bc ((decide (idx17 ≤ x24))) (slices_xorshift_Next.C (some ⟨bq7, 0, none⟩) Hx18 fun r25 Hx26 => bc ((decide (x6 ≤ (IntKind.wrap .i64 (iand .u64 r25 (IntKind.wrap .u64 (r10 - (1 : Int)))))))) (CHK .i64 ((IntKind.wrap .i64 (iand .u64 r25 (IntKind.wrap .u64 (r10 - (1 : Int))))) - x6) fun x28 => slices_breakPatternsOrdered_uint32.k1 Hx18 Iq19 a4 datal2 datap1 idx17 mu20 x28 Hx26) (slices_breakPatternsOrdered_uint32.k1 Hx18 Iq19 a4 datal2 datap1 idx17 mu20 (IntKind.wrap .i64 (iand .u64 r25 (IntKind.wrap .u64 (r10 - (1 : Int))))) Hx26)) (K Hx18)))) (K H)
theorem slices_breakPatternsOrdered_uint32.vc (datap1 : Option Addr) (datal2 : Nat) (datac3 : Nat) (a4 : Int) (bq5 : Int) (H : Hp) (K : Hp → Prop) : vcFun prog tab slices_breakPatternsOrdered_uint32.ann none Try.f75 (List.map AV.v [.slice datap1 datal2 datac3, .int .i64 a4, .int .i64 bq5]) H (fun v H2 _ => tupV v fun vs => d0 vs (K H2)) = slices_breakPatternsOrdered_uint32.F datap1 datal2 datac3 a4 bq5 H K := by kernel_rfl
theorem slices_breakPatternsOrdered_uint32.of (datap1 : Option Addr) (datal2 : Nat) (datac3 : Nat) (a4 : Int) (bq5 : Int) {H : Hp} {K : Hp → Prop} (h : slices_breakPatternsOrdered_uint32.F datap1 datal2 datac3 a4 bq5 H K) : slices_breakPatternsOrdered_uint32.C datap1 datal2 datac3 a4 bq5 H K := CallH_of_vc mix tabOk Try.func75 (by kernel_rfl) ((slices_breakPatternsOrdered_uint32.vc datap1 datal2 datac3 a4 bq5 H K).mpr h)
-- slices.choosePivotOrdered[uint32] (76)
def slices_choosePivotOrdered_uint32.ann : Ann := { loops := [], pars := [] }
def slices_choosePivotOrdered_uint32.k1 (K : Int → Int → Hp → Prop) (bq7 : Nat) (j48 : Int) (Hx49 : Hp) : Prop :=
  ldI .i64 (rd Hx49 bq7 0) fun x50 => bc ((decide (x50 = (0 : Int)))) (K j48 (1 : Int) Hx49) (bc ((decide (x50 = (12 : Int)))) (K j48 (2 : Int) Hx49) (K j48 (0 : Int) Hx49))
def slices_choosePivotOrdered_uint32.F (datap1 : Option Addr) (datal2 : Nat) (datac3 : Nat) (a4 : Int) (bq5 : Int) (H : Hp) (K : Int → Int → Hp → Prop) : Prop :=
  CHK .i64 (bq5 - a4) fun x6 => NEW H [.int .i64 (0 : Int)] fun bq7 Hx8 => ¬ (4 : Int) = 0 ∧ (CHK .i64 (Int.tdiv x6 (4 : Int)) fun x9 => CHK .i64 (x9 * (1 : Int)) fun x10 => CHK .i64 (a4 + x10) fun x11 => ¬ (4 : Int) = 0 ∧ (CHK .i64 (Int.tdiv x6 (4 : Int)) fun x12 => CHK .i64 (x12 * (2 : Int)) fun x13 => CHK .i64 (a4 + x13) fun x14 => ¬ (4 : Int) = 0 ∧ (CHK .i64 (Int.tdiv x6 (4 : Int)) fun x15 => CHK .i64 (x15 * (3 : Int)) fun x16 => CHK .i64 (a4 + x16) fun x17 => bc ((decide ((8 : Int) ≤ x6))) (bc ((decide ((50 : Int) ≤ x6))) (slices_medianAdjacentOrdered_uint32.C datap1 datal2 datac3 x11 (some ⟨bq7, 0, none⟩) Hx8 fun r18 Hx19 => slices_medianAdjacentOrdered_uint32.C datap1 datal2 datac3 x14 (some ⟨bq7, 0, none⟩) Hx19 fun r25 Hx26 => slices_medianAdjacentOrdered_uint32.C datap1 datal2 datac3 x17 (some ⟨bq7, 0, none⟩) Hx26 fun r32 Hx33 => slices_medianOrdered_uint32.C datap1 datal2 datac3 r18 r25 r32 (some ⟨bq7, 0, none⟩) Hx33 fun r39 Hx40 => slices_choosePivotOrdered_uint32.k1 K bq7 r39 Hx40) (slices_medianOrdered_uint32.C datap1 datal2 datac3 x11 x14 x17 (some ⟨bq7, 0, none⟩) Hx8 fun r58 Hx59 => slices_choosePivotOrdered_uint32.k1 K bq7 r58 Hx59)) (slices_choosePivotOrdered_uint32.k1 K bq7 x14 Hx8))))
theorem slices_choosePivotOrdered_uint32.vc (datap1 : Option Addr) (datal2 : Nat) (datac3 : Nat) (a4 : Int) (bq5 : Int) (H : Hp) (K : Int → Int → Hp → Prop) : vcFun prog tab slices_choosePivotOrdered_uint32.ann none Try.f76 (List.map AV.v [.slice datap1 datal2 datac3, .int .i64 a4, .int .i64 bq5]) H (fun v H2 _ => tupV v fun vs => d2 vs fun wv0 wv1 => liftI .i64 wv0 fun r69 => liftI .i64 wv1 fun r70 => K r69 r70 H2) = slices_choosePivotOrdered_uint32.F datap1 datal2 datac3 a4 bq5 H K := by kernel_rfl
theorem slices_choosePivotOrdered_uint32.of (datap1 : Option Addr) (datal2 : Nat) (datac3 : Nat) (a4 : Int) (bq5 : Int) {H : Hp} {K : Int → Int → Hp → Prop} (h : slices_choosePivotOrdered_uint32.F datap1 datal2 datac3 a4 bq5 H K) : slices_choosePivotOrdered_uint32.C datap1 datal2 datac3 a4 bq5 H K := CallH_of_vc mix tabOk Try.func76 (by kernel_rfl) ((slices_choosePivotOrdered_uint32.vc datap1 datal2 datac3 a4 bq5 H K).mpr h)
-- slices.reverseRangeOrdered[uint32] (77)
def slices_reverseRangeOrdered_uint32.ann : Ann := { loops := [(0, [(6, .one (.int .i64)), (7, .one (.int .i64))])], pars := [] }
def slices_reverseRangeOrdered_uint32.F (datap1 : Option Addr) (datal2 : Nat) (_datac3 : Nat) (a4 : Int) (bq5 : Int) (H : Hp) (K : Hp → Prop) : Prop :=
  CHK .i64 (bq5 - (1 : Int)) fun x6 => ∃ (Iq10 : Int → Int → Hp → Prop) (mu11 : Int → Int → Hp → Nat), Iq10 a4 x6 H ∧ ∀ (i7 : Int) (j8 : Int) (Hx9 : Hp), Iq10 i7 j8 Hx9 → bc ((decide (i7 < j8))) (IDX j8 datal2 fun k12 => NIL datap1 fun bq13 oq14 => ldI .u32 (rd Hx9 bq13 (oq14 + k12)) fun x15 => IDX i7 datal2 fun k16 => NIL datap1 fun bq17 oq18 => ldI .u32 (rd Hx9 bq17 (oq18 + k16)) fun x19 => IDX i7 datal2 fun k20 => NIL datap1 fun bq21 oq22 => ST Hx9 bq21 (oq22 + k20) (.int .u32 x15) fun Hx23 => IDX j8 datal2 fun k24 => NIL datap1 fun bq25 oq26 => ST Hx23 bq25 (oq26 + k24) (.int .u32 x19) fun Hx27 => CHK .i64 (i7 + (1 : Int)) fun x28 => CHK .i64 (j8 - (1 : Int)) fun x29 => Iq10 x28 x29 Hx27 ∧ mu11 x28 x29 Hx27 < mu11 i7 j8 Hx9) (K Hx9)
theorem slices_reverseRangeOrdered_uint32.vc (datap1 : Option Addr) (datal2 : Nat) (datac3 : Nat) (a4 : Int) (bq5 : Int) (H : Hp) (K : Hp → Prop) : vcFun prog tab slices_reverseRangeOrdered_uint32.ann none Try.f77 (List.map AV.v [.slice datap1 datal2 datac3, .int .i64 a4, .int .i64 bq5]) H (fun v H2 _ => tupV v fun vs => d0 vs (K H2)) = slices_reverseRangeOrdered_uint32.F datap1 datal2 datac3 a4 bq5 H K := by kernel_rfl
theorem slices_reverseRangeOrdered_uint32.of (datap1 : Option Addr) (datal2 : Nat) (datac3 : Nat) (a4 : Int) (bq5 : Int) {H : Hp} {K : Hp → Prop} (h : slices_reverseRangeOrdered_uint32.F datap1 datal2 datac3 a4 bq5 H K) : slices_reverseRangeOrdered_uint32.C datap1 datal2 datac3 a4 bq5 H K := CallH_of_vc mix tabOk Try.func77 (by kernel_rfl) ((slices_reverseRangeOrdered_uint32.vc datap1 datal2 datac3 a4 bq5 H K).mpr h)
-- slices.partialInsertionSortOrdered[uint32] (78)
def slices_partialInsertionSortOrdered_uint32.ann : Ann := { loops := [(0, [(7, .one (.int .i64)), (8, .one (.int .i64))]), (2, [(7, .one (.int .i64))]), (4, [(9, .one (.int .i64))]), (6, [(10, .one (.int .i64))])], pars := [] }
def slices_partialInsertionSortOrdered_uint32.k2 (Hx9 : Hp) (Iq10 : Int → Int → Hp → Prop) (bq5 : Int) (datal2 : Nat) (datap1 : Option Addr) (i31 : Int) (i7 : Int) (j8 : Int) (mu11 : Int → Int → Hp → Nat) (Hx73 : Hp) : Prop :=
  CHK .i64 (bq5 - i31) fun x74 => bc ((decide ((2 : Int) ≤ x74))) (CHK .i64 (i31 + (1 : Int)) fun x75 => ∃ (Iq78 : Int → Hp → Prop) (mu79 : Int → Hp → Nat), Iq78 x75 Hx73 ∧ ∀ (j76 : Int) (Hx77 : Hp), Iq78 j76 Hx77 → bc ((decide (j76 < bq5))) (IDX j76 datal2 fun k80 => NIL datap1 fun bq81 oq82 => ldI .u32 (rd Hx77 bq81 (oq82 + k80)) fun x83 => CHK .i64 (j76 - (1 : Int)) fun x84 => IDX x84 datal2 fun k85 => NIL datap1 fun bq86 oq87 => ldI .u32 (rd Hx77 bq86 (oq87 + k85)) fun x88 => cmp_Less_uint32.C x83 x88 Hx77 fun r89 Hx90 => bc ((!r89)) (CHK .i64 (j8 + (1 : Int)) fun x93 => Iq10 i31 x93 Hx90 ∧ mu11 i31 x93 Hx90 < mu11 i7 j8 Hx9) (CHK .i64 (j76 - (1 : Int)) fun x96 => CHK .i64 (j76 - (1 : Int)) fun x97 => IDX x97 datal2 fun k98 => NIL datap1 fun bq99 oq100 => ldI .u32 (rd Hx90 bq99 (oq100 + k98)) fun x101 => IDX j76 datal2 fun k102 => NIL datap1 fun bq103 oq104 => ldI .u32 (rd Hx90 bq103 (oq104 + k102)) fun x105 => IDX j76 datal2 fun k106 => NIL datap1 fun bq107 oq108 => ST Hx90 bq107 (oq108 + k106) (.int .u32 x101) fun Hx109 => IDX x96 datal2 fun k110 => NIL datap1 fun bq111 oq112 => ST Hx109 bq111 (oq112 + k110) (.int .u32 x105) fun Hx113 => CHK .i64 (j76 + (1 : Int)) fun x114 => Iq78 x114 Hx113 ∧ mu79 x114 Hx113 < mu79 j76 Hx77)) (CHK .i64 (j8 + (1 : Int)) fun x116 => Iq10 i31 x116 Hx77 ∧ mu11 i31 x116 Hx77 < mu11 i7 j8 Hx9)) (CHK .i64 (j8 + (1 : Int)) fun x119 => Iq10 i31 x119 Hx73 ∧ mu11 i31 x119 Hx73 < mu11 i7 j8 Hx9)
def slices_partialInsertionSortOrdered_uint32.k1 (Hx9 : Hp) (Iq10 : Int → Int → Hp → Prop) (K : Bool → Hp → Prop) (a4 : Int) (bq5 : Int) (datal2 : Nat) (datap1 : Option Addr) (i7 : Int) (j8 : Int) (mu11 : Int → Int → Hp → Nat) (i31 : Int) (Hx32 : Hp) : Prop :=
  bc ((decide (i31 = bq5))) (K true Hx32) (CHK .i64 (bq5 - a4) fun x34 => bc ((decide (x34 < (50 : Int)))) (K false Hx32) (CHK .i64 (i31 - (1 : Int)) fun x36 => CHK .i64 (i31 - (1 : Int)) fun x37 => IDX x37 datal2 fun k38 => NIL datap1 fun bq39 oq40 => ldI .u32 (rd Hx32 bq39 (oq40 + k38)) fun x41 => IDX i31 datal2 fun k42 => NIL datap1 fun bq43 oq44 => ldI .u32 (rd Hx32 bq43 (oq44 + k42)) fun x45 => IDX i31 datal2 fun k46 => NIL datap1 fun bq47 oq48 => ST Hx32 bq47 (oq48 + k46) (.int .u32 x41) fun Hx49 => IDX x36 datal2 fun k50 => NIL datap1 fun bq51 oq52 => ST Hx49 bq51 (oq52 + k50) (.int .u32 x45) fun Hx53 => CHK .i64 (i31 - a4) fun x54 => bc ((decide ((2 : Int) ≤ x54))) (CHK .i64 (i31 - (1 : Int)) fun x55 => ∃ (Iq58 : Int → Hp → Prop) (mu59 : Int → Hp → Nat), Iq58 x55 Hx53 ∧ ∀ (j56 : Int) (Hx57 : Hp), Iq58 j56 Hx57 → bc ((decide ((1 : Int) ≤ j56))) (IDX j56 datal2 fun k60 => NIL datap1 fun bq61 oq62 => ldI .u32 (rd Hx57 bq61 (oq62 + k60)) fun x63 => CHK .i64 (j56 - (1 : Int)) fun x64 => IDX x64 datal2 fun k65 => NIL datap1 fun bq66 oq67 => ldI .u32 (rd Hx57 bq66 (oq67 + k65)) fun x68 => cmp_Less_uint32.C x63 x68 Hx57 fun r69 Hx70 => bc ((!r69)) (slices_partialInsertionSortOrdered_uint32.k2 Hx9 Iq10 bq5 datal2 datap1 i31 i7 j8 mu11 Hx70) (CHK .i64 (j56 - (1 : Int)) fun x122 => CHK .i64 (j56 - (1 : Int)) fun x123 => IDX x123 datal2 fun k124 => NIL datap1 fun bq125 oq126 => ldI .u32 (rd Hx70 bq125 (oq126 + k124)) fun x127 => IDX j56 datal2 fun k128 => NIL datap1 fun bq129 oq130 => ldI .u32 (rd Hx70 bq129 (oq130 + k128)) fun x131 => IDX j56 datal2 fun k132 => NIL datap1 fun bq133 oq134 => ST Hx70 bq133 (oq134 + k132) (.int .u32 x127) fun Hx135 => IDX x122 datal2 fun k136 => NIL datap1 fun bq137 oq138 => ST Hx135 bq137 (oq138 + k136) (.int .u32 x131) fun Hx139 => CHK .i64 (j56 - (1 : Int)) fun x140 => Iq58 x140 Hx139 ∧ mu59 x140 Hx139 < mu59 j56 Hx57)) (slices_partialInsertionSortOrdered_uint32.k2 Hx9 Iq10 bq5 datal2 datap1 i31 i7 j8 mu11 Hx57)) (slices_partialInsertionSortOrdered_uint32.k2 Hx9 Iq10 bq5 datal2 datap1 i31 i7 j8 mu11 Hx53)))
def slices_partialInsertionSortOrdered_uint32.F (datap1 : Option Addr) (datal2 : Nat) (_datac3 : Nat) (a4 : Int) (bq5 : Int) (H : Hp) (K : Bool → Hp → Prop) : Prop :=
  CHK .i64 (a4 + (1 : Int)) fun x6 => ∃ (Iq10 : Int → Int → Hp → Prop) (mu11 : Int → Int → Hp → Nat), Iq10 x6 (0 : Int) H ∧ ∀ (i7 : Int) (j8 : Int) (Hx9 : Hp), Iq10 i7 j8 Hx9 → bc ((decide (j8 < (5 : Int)))) (∃ (Iq14 : Int → Hp → Prop) (mu15 : Int → Hp → Nat), Iq14 i7 Hx9 ∧ ∀ (i12 : Int) (Hx13 : Hp), Iq14 i12 Hx13 → bc ((decide (i12 < bq5))) (IDX i12 datal2 fun k16 => NIL datap1 fun bq17 oq18 => ldI .u32 (rd Hx13 bq17 (oq18 + k16)) fun x19 => CHK .i64 (i12 - (1 : Int)) fun x20 => IDX x20 datal2 fun k21 => NIL datap1 fun bq22 oq23 => ldI .u32 (rd Hx13 bq22 (oq23 + k21)) fun x24 => cmp_Less_uint32.C x19 x24 Hx13 fun r25 Hx26 => bc ((!r25)) (CHK .i64 (i12 + (1 : Int)) fun x29 => Iq14 x29 Hx26 ∧ mu15 x29 Hx26 < mu15 i12 Hx13) (slices_partialInsertionSortOrdered_uint32.k1 Hx9 Iq10 K a4 bq5 datal2 datap1 i7 j8 mu11 i12 Hx26)) (slices_partialInsertionSortOrdered_uint32.k1 Hx9 Iq10 K a4 bq5 datal2 datap1 i7 j8 mu11 i12 Hx13)) (K false Hx9)
theorem slices_partialInsertionSortOrdered_uint32.vc (datap1 : Option Addr) (datal2 : Nat) (datac3 : Nat) (a4 : Int) (bq5 : Int) (H : Hp) (K : Bool → Hp → Prop) : vcFun prog tab slices_partialInsertionSortOrdered_uint32.ann none Try.f78 (List.map AV.v [.slice datap1 datal2 datac3, .int .i64 a4, .int .i64 bq5]) H (fun v H2 _ => liftB v fun r145 => K r145 H2) = slices_partialInsertionSortOrdered_uint32.F datap1 datal2 datac3 a4 bq5 H K := by kernel_rfl
theorem slices_partialInsertionSortOrdered_uint32.of (datap1 : Option Addr) (datal2 : Nat) (datac3 : Nat) (a4 : Int) (bq5 : Int) {H : Hp} {K : Bool → Hp → Prop} (h : slices_partialInsertionSortOrdered_uint32.F datap1 datal2 datac3 a4 bq5 H K) : slices_partialInsertionSortOrdered_uint32.C datap1 datal2 datac3 a4 bq5 H K := CallH_of_vc mix tabOk Try.func78 (by kernel_rfl) ((slices_partialInsertionSortOrdered_uint32.vc datap1 datal2 datac3 a4 bq5 H K).mpr h)
-- cmp.Less[uint32] (79)
def cmp_Less_uint32.ann : Ann := { loops := [], pars := [] }
def cmp_Less_uint32.F (x1 : Int) (y2 : Int) (H : Hp) (K : Bool → Hp → Prop) : Prop :=
  cmp_isNaN_uint32.C x1 H fun r3 Hx4 => bc (r3) (cmp_isNaN_uint32.C y2 Hx4 fun r6 Hx7 => bc ((!r6)) (K true Hx7) (K (decide (x1 < y2)) Hx7)) (K (decide (x1 < y2)) Hx4)
theorem cmp_Less_uint32.vc (x1 : Int) (y2 : Int) (H : Hp) (K : Bool → Hp → Prop) : vcFun prog tab cmp_Less_uint32.ann none Try.f79 (List.map AV.v [.int .u32 x1, .int .u32 y2]) H (fun v H2 _ => liftB v fun r12 => K r12 H2) = cmp_Less_uint32.F x1 y2 H K := by kernel_rfl
theorem cmp_Less_uint32.of (x1 : Int) (y2 : Int) {H : Hp} {K : Bool → Hp → Prop} (h : cmp_Less_uint32.F x1 y2 H K) : cmp_Less_uint32.C x1 y2 H K := CallH_of_vc mix tabOk Try.func79 (by kernel_rfl) ((cmp_Less_uint32.vc x1 y2 H K).mpr h)
-- slices.partitionEqualOrdered[uint32] (80)
def slices_partitionEqualOrdered_uint32.ann : Ann := { loops := [(0, [(9, .one (.int .i64)), (10, .one (.int .i64))]), (2, [(9, .one (.int .i64))]), (4, [(10, .one (.int .i64))])], pars := [] }
def slices_partitionEqualOrdered_uint32.k2 (Hx27 : Hp) (Iq28 : Int → Int → Hp → Prop) (K : Int → Hp → Prop) (datal2 : Nat) (datap1 : Option Addr) (i25 : Int) (i48 : Int) (j26 : Int) (mu29 : Int → Int → Hp → Nat) (j68 : Int) (Hx69 : Hp) : Prop :=
  bc ((decide (j68 < i48))) (K i48 Hx69) (IDX j68 datal2 fun k71 => NIL datap1 fun bq72 oq73 => ldI .u32 (rd Hx69 bq72 (oq73 + k71)) fun x74 => IDX i48 datal2 fun k75 => NIL datap1 fun bq76 oq77 => ldI .u32 (rd Hx69 bq76 (oq77 + k75)) fun x78 => IDX i48 datal2 fun k79 => NIL datap1 fun bq80 oq81 => ST Hx69 bq80 (oq81 + k79) (.int .u32 x74) fun Hx82 => IDX j68 datal2 fun k83 => NIL datap1 fun bq84 oq85 => ST Hx82 bq84 (oq85 + k83) (.int .u32 x78) fun Hx86 => CHK .i64 (i48 + (1 : Int)) fun x87 => CHK .i64 (j68 - (1 : Int)) fun x88 => Iq28 x87 x88 Hx86 ∧ mu29 x87 x88 Hx86 < mu29 i25 j26 Hx27)
def slices_partitionEqualOrdered_uint32.k1 (Hx27 : Hp) (Iq28 : Int → Int → Hp → Prop) (K : Int → Hp → Prop) (a4 : Int) (datal2 : Nat) (datap1 : Option Addr) (i25 : Int) (j26 : Int) (mu29 : Int → Int → Hp → Nat) (i48 : Int) (Hx49 : Hp) : Prop :=
  ∃ (Iq52 : Int → Hp → Prop) (mu53 : Int → Hp → Nat), Iq52 j26 Hx49 ∧ ∀ (j50 : Int) (Hx51 : Hp), Iq52 j50 Hx51 → bc ((decide (i48 ≤ j50))) (IDX a4 datal2 fun k54 => NIL datap1 fun bq55 oq56 => ldI .u32 (rd Hx51 bq55 (oq56 + k54)) fun x57 => IDX j50 datal2 fun k58 => NIL datap1 fun bq59 oq60 => ldI .u32 (rd Hx51 bq59 (oq60 + k58)) fun x61 => cmp_Less_uint32.C x57 x61 Hx51 fun r62 Hx63 => bc (r62) (CHK .i64 (j50 - (1 : Int)) fun x66 => Iq52 x66 Hx63 ∧ mu53 x66 Hx63 < mu53 j50 Hx51) (slices_partitionEqualOrdered_uint32.k2 Hx27 Iq28 K datal2 datap1 i25 i48 j26 mu29 j50 Hx63)) (slices_partitionEqualOrdered_uint32.k2 Hx27 Iq28 K datal2 datap1 i25 i48 j26 mu29 j50 Hx51)
def slices_partitionEqualOrdered_uint32.F (datap1 : Option Addr) (datal2 : Nat) (_datac3 : Nat) (a4 : Int) (bq5 : Int) (pivot6 : Int) (H : Hp) (K : Int → Hp → Prop) : Prop :=
  IDX pivot6 datal2 fun k7 => NIL datap1 fun bq8 oq9 => ldI .u32 (rd H bq8 (oq9 + k7)) fun x10 => IDX a4 datal2 fun k11 => NIL datap1 fun bq12 oq13 => ldI .u32 (rd H bq12 (oq13 + k11)) fun x14 => IDX a4 datal2 fun k15 => NIL datap1 fun bq16 oq17 => ST H bq16 (oq17 + k15) (.int .u32 x10) fun Hx18 => IDX pivot6 datal2 fun k19 => NIL datap1 fun bq20 oq21 => ST Hx18 bq20 (oq21 + k19) (.int .u32 x14) fun Hx22 => CHK .i64 (a4 + (1 : Int)) fun x23 => CHK .i64 (bq5 - (1 : Int)) fun x24 => ∃ (Iq28 : Int → Int → Hp → Prop) (mu29 : Int → Int → Hp → Nat), Iq28 x23 x24 Hx22 ∧ ∀ (i25 : Int) (j26 : Int) (Hx27 : Hp), Iq28 i25 j26 Hx27 → ∃ (Iq32 : Int → Hp → Prop) (mu33 : Int → Hp → Nat), Iq32 i25 Hx27 ∧ ∀ (i30 : Int) (Hx31 : Hp), Iq32 i30 Hx31 → bc ((decide (i30 ≤ j26))) (IDX a4 datal2 fun k34 => NIL datap1 fun bq35 oq36 => ldI .u32 (rd Hx31 bq35 (oq36 + k34)) fun x37 => IDX i30 datal2 fun k38 => NIL datap1 fun bq39 oq40 => ldI .u32 (rd Hx31 bq39 (oq40 + k38)) fun x41 => cmp_Less_uint32.C x37 x41 Hx31 fun r42 Hx43 => bc ((!r42)) (CHK .i64 (i30 + (1 : Int)) fun x46 => Iq32 x46 Hx43 ∧ mu33 x46 Hx43 < mu33 i30 Hx31) (slices_partitionEqualOrdered_uint32.k1 Hx27 Iq28 K a4 datal2 datap1 i25 j26 mu29 i30 Hx43)) (slices_partitionEqualOrdered_uint32.k1 Hx27 Iq28 K a4 datal2 datap1 i25 j26 mu29 i30 Hx31)
theorem slices_partitionEqualOrdered_uint32.vc (datap1 : Option Addr) (datal2 : Nat) (datac3 : Nat) (a4 : Int) (bq5 : Int) (pivot6 : Int) (H : Hp) (K : Int → Hp → Prop) : vcFun prog tab slices_partitionEqualOrdered_uint32.ann none Try.f80 (List.map AV.v [.slice datap1 datal2 datac3, .int .i64 a4, .int .i64 bq5, .int .i64 pivot6]) H (fun v H2 _ => liftI .i64 v fun r95 => K r95 H2) = slices_partitionEqualOrdered_uint32.F datap1 datal2 datac3 a4 bq5 pivot6 H K := by kernel_rfl
theorem slices_partitionEqualOrdered_uint32.of (datap1 : Option Addr) (datal2 : Nat) (datac3 : Nat) (a4 : Int) (bq5 : Int) (pivot6 : Int) {H : Hp} {K : Int → Hp → Prop} (h : slices_partitionEqualOrdered_uint32.F datap1 datal2 datac3 a4 bq5 pivot6 H K) : slices_partitionEqualOrdered_uint32.C datap1 datal2 datac3 a4 bq5 pivot6 H K := CallH_of_vc mix tabOk Try.func80 (by kernel_rfl) ((slices_partitionEqualOrdered_uint32.vc datap1 datal2 datac3 a4 bq5 pivot6 H K).mpr h)
-- slices.partitionOrdered[uint32] (81)
def slices_partitionOrdered_uint32.ann : Ann := { loops := [(0, [(10, .one (.int .i64))]), (2, [(11, .one (.int .i64))]), (4, [(10, .one (.int .i64)), (11, .one (.int .i64))]), (6, [(10, .one (.int .i64))]), (8, [(11, .one (.int .i64))])], pars := [] }
def slices_partitionOrdered_uint32.k5 (K : Int → Bool → Hp → Prop) (a4 : Int) (datal2 : Nat) (datap1 : Option Addr) (j146 : Int) (Hx147 : Hp) : Prop :=
  IDX a4 datal2 fun k148 => NIL datap1 fun bq149 oq150 => ldI .u32 (rd Hx147 bq149 (oq150 + k148)) fun x151 => IDX j146 datal2 fun k152 => NIL datap1 fun bq153 oq154 => ldI .u32 (rd Hx147 bq153 (oq154 + k152)) fun x155 => IDX j146 datal2 fun k156 => NIL datap1 fun bq157 oq158 => ST Hx147 bq157 (oq158 + k156) (.int .u32 x151) fun Hx159 => IDX a4 datal2 fun k160 => NIL datap1 fun bq161 oq162 => ST Hx159 bq161 (oq162 + k160) (.int .u32 x155) fun Hx163 => K j146 false Hx163
def slices_partitionOrdered_uint32.k4 (Hx103 : Hp) (Iq104 : Int → Int → Hp → Prop) (K : Int → Bool → Hp → Prop) (a4 : Int) (datal2 : Nat) (datap1 : Option Addr) (i101 : Int) (i124 : Int) (j102 : Int) (mu105 : Int → Int → Hp → Nat) (j144 : Int) (Hx145 : Hp) : Prop :=
  bc ((decide (j144 < i124))) (slices_partitionOrdered_uint32.k5 K a4 datal2 datap1 j144 Hx145) (IDX j144 datal2 fun k167 => NIL datap1 fun bq168 oq169 => ldI .u32 (rd Hx145 bq168 (oq169 + k167)) fun x170 => IDX i124 datal2 fun k171 => NIL datap1 fun bq172 oq173 => ldI .u32 (rd Hx145 bq172 (oq173 + k171)) fun x174 => IDX i124 datal2 fun k175 => NIL datap1 fun bq176 oq177 => ST Hx145 bq176 (oq177 + k175) (.int .u32 x170) fun Hx178 => IDX j144 datal2 fun k179 => NIL datap1 fun bq180 oq181 => ST Hx178 bq180 (oq181 + k179) (.int .u32 x174) fun Hx182 => CHK .i64 (i124 + (1 : Int)) fun x183 => CHK .i64 (j144 - (1 : Int)) fun x184 => Iq104 x183 x184 Hx182 ∧ mu105 x183 x184 Hx182 < mu105 i101 j102 Hx103)
def slices_partitionOrdered_uint32.k3 (Hx103 : Hp) (Iq104 : Int → Int → Hp → Prop) (K : Int → Bool → Hp → Prop) (a4 : Int) (datal2 : Nat) (datap1 : Option Addr) (i101 : Int) (j102 : Int) (mu105 : Int → Int → Hp → Nat) (i124 : Int) (Hx125 : Hp) : Prop :=
  ∃ (Iq128 : Int → Hp → Prop) (mu129 : Int → Hp → Nat), Iq128 j102 Hx125 ∧ ∀ (j126 : Int) (Hx127 : Hp), Iq128 j126 Hx127 → bc ((decide (i124 ≤ j126))) (IDX j126 datal2 fun k130 => NIL datap1 fun bq131 oq132 => ldI .u32 (rd Hx127 bq131 (oq132 + k130)) fun x133 => IDX a4 datal2 fun k134 => NIL datap1 fun bq135 oq136 => ldI .u32 (rd Hx127 bq135 (oq136 + k134)) fun x137 => cmp_Less_uint32.C x133 x137 Hx127 fun r138 Hx139 => bc ((!r138)) (CHK .i64 (j126 - (1 : Int)) fun x142 => Iq128 x142 Hx139 ∧ mu129 x142 Hx139 < mu129 j126 Hx127) (slices_partitionOrdered_uint32.k4 Hx103 Iq104 K a4 datal2 datap1 i101 i124 j102 mu105 j126 Hx139)) (slices_partitionOrdered_uint32.k4 Hx103 Iq104 K a4 datal2 datap1 i101 i124 j102 mu105 j126 Hx127)
def slices_partitionOrdered_uint32.k2 (K : Int → Bool → Hp → Prop) (a4 : Int) (datal2 : Nat) (datap1 : Option Addr) (i43 : Int) (j63 : Int) (Hx64 : Hp) : Prop :=
  bc ((decide (j63 < i43))) (IDX a4 datal2 fun k65 => NIL datap1 fun bq66 oq67 => ldI .u32 (rd Hx64 bq66 (oq67 + k65)) fun x68 => IDX j63 datal2 fun k69 => NIL datap1 fun bq70 oq71 => ldI .u32 (rd Hx64 bq70 (oq71 + k69)) fun x72 => IDX j63 datal2 fun k73 => NIL datap1 fun bq74 oq75 => ST Hx64 bq74 (oq75 + k73) (.int .u32 x68) fun Hx76 => IDX a4 datal2 fun k77 => NIL datap1 fun bq78 oq79 => ST Hx76 bq78 (oq79 + k77) (.int .u32 x72) fun Hx80 => K j63 true Hx80) (IDX j63 datal2 fun k83 => NIL datap1 fun bq84 oq85 => ldI .u32 (rd Hx64 bq84 (oq85 + k83)) fun x86 => IDX i43 datal2 fun k87 => NIL datap1 fun bq88 oq89 => ldI .u32 (rd Hx64 bq88 (oq89 + k87)) fun x90 => IDX i43 datal2 fun k91 => NIL datap1 fun bq92 oq93 => ST Hx64 bq92 (oq93 + k91) (.int .u32 x86) fun Hx94 => IDX j63 datal2 fun k95 => NIL datap1 fun bq96 oq97 => ST Hx94 bq96 (oq97 + k95) (.int .u32 x90) fun Hx98 => CHK .i64 (i43 + (1 : Int)) fun x99 => CHK .i64 (j63 - (1 : Int)) fun x100 => ∃ (Iq104 : Int → Int → Hp → Prop) (mu105 : Int → Int → Hp → Nat), Iq104 x99 x100 Hx98 ∧ ∀ (i101 : Int) (j102 : Int) (Hx103 : Hp), Iq104 i101 j102 Hx103 → ∃ (Iq108 : Int → Hp → Prop) (mu109 : Int → Hp → Nat), Iq108 i101 Hx103 ∧ ∀ (i106 : Int) (Hx107 : Hp), Iq108 i106 Hx107 → bc ((decide (i106 ≤ j102))) (IDX i106 datal2 fun k110 => NIL datap1 fun bq111 oq112 => ldI .u32 (rd Hx107 bq111 (oq112 + k110)) fun x113 => IDX a4 datal2 fun k114 => NIL datap1 fun bq115 oq116 => ldI .u32 (rd Hx107 bq115 (oq116 + k114)) fun x117 => cmp_Less_uint32.C x113 x117 Hx107 fun r118 Hx119 => bc (r118) (CHK .i64 (i106 + (1 : Int)) fun x122 => Iq108 x122 Hx119 ∧ mu109 x122 Hx119 < mu109 i106 Hx107) (slices_partitionOrdered_uint32.k3 Hx103 Iq104 K a4 datal2 datap1 i101 j102 mu105 i106 Hx119)) (slices_partitionOrdered_uint32.k3 Hx103 Iq104 K a4 datal2 datap1 i101 j102 mu105 i106 Hx107))
def slices_partitionOrdered_uint32.k1 (K : Int → Bool → Hp → Prop) (a4 : Int) (datal2 : Nat) (datap1 : Option Addr) (x24 : Int) (i43 : Int) (Hx44 : Hp) : Prop :=
  ∃ (Iq47 : Int → Hp → Prop) (mu48 : Int → Hp → Nat), Iq47 x24 Hx44 ∧ ∀ (j45 : Int) (Hx46 : Hp), Iq47 j45 Hx46 → bc ((decide (i43 ≤ j45))) (IDX j45 datal2 fun k49 => NIL datap1 fun bq50 oq51 => ldI .u32 (rd Hx46 bq50 (oq51 + k49)) fun x52 => IDX a4 datal2 fun k53 => NIL datap1 fun bq54 oq55 => ldI .u32 (rd Hx46 bq54 (oq55 + k53)) fun x56 => cmp_Less_uint32.C x52 x56 Hx46 fun r57 Hx58 => bc ((!r57)) (CHK .i64 (j45 - (1 : Int)) fun x61 => Iq47 x61 Hx58 ∧ mu48 x61 Hx58 < mu48 j45 Hx46) (slices_partitionOrdered_uint32.k2 K a4 datal2 datap1 i43 j45 Hx58)) (slices_partitionOrdered_uint32.k2 K a4 datal2 datap1 i43 j45 Hx46)
def slices_partitionOrdered_uint32.F (datap1 : Option Addr) (datal2 : Nat) (_datac3 : Nat) (a4 : Int) (bq5 : Int) (pivot6 : Int) (H : Hp) (K : Int → Bool → Hp → Prop) : Prop :=
  IDX pivot6 datal2 fun k7 => NIL datap1 fun bq8 oq9 => ldI .u32 (rd H bq8 (oq9 + k7)) fun x10 => IDX a4 datal2 fun k11 => NIL datap1 fun bq12 oq13 => ldI .u32 (rd H bq12 (oq13 + k11)) fun x14 => IDX a4 datal2 fun k15 => NIL datap1 fun bq16 oq17 => ST H bq16 (oq17 + k15) (.int .u32 x10) fun Hx18 => IDX pivot6 datal2 fun k19 => NIL datap1 fun bq20 oq21 => ST Hx18 bq20 (oq21 + k19) (.int .u32 x14) fun Hx22 => CHK .i64 (a4 + (1 : Int)) fun x23 => CHK .i64 (bq5 - (1 : Int)) fun x24 => ∃ (Iq27 : Int → Hp → Prop) (mu28 : Int → Hp → Nat), Iq27 x23 Hx22 ∧ ∀ (i25 : Int) (Hx26 : Hp), Iq27 i25 Hx26 → bc ((decide (i25 ≤ x24))) (IDX i25 datal2 fun k29 => NIL datap1 fun bq30 oq31 => ldI .u32 (rd Hx26 bq30 (oq31 + k29)) fun x32 => IDX a4 datal2 fun k33 => NIL datap1 fun bq34 oq35 => ldI .u32 (rd Hx26 bq34 (oq35 + k33)) fun x36 => cmp_Less_uint32.C x32 x36 Hx26 fun r37 Hx38 => bc (r37) (CHK .i64 (i25 + (1 : Int)) fun x41 => Iq27 x41 Hx38 ∧ mu28 x41 Hx38 < mu28 i25 Hx26) (slices_partitionOrdered_uint32.k1 K a4 datal2 datap1 x24 i25 Hx38)) (slices_partitionOrdered_uint32.k1 K a4 datal2 datap1 x24 i25 Hx26)
theorem slices_partitionOrdered_uint32.vc (datap1 : Option Addr) (datal2 : Nat) (datac3 : Nat) (a4 : Int) (bq5 : Int) (pivot6 : Int) (H : Hp) (K : Int → Bool → Hp → Prop) : vcFun prog tab slices_partitionOrdered_uint32.ann none Try.f81 (List.map AV.v [.slice datap1 datal2 datac3, .int .i64 a4, .int .i64 bq5, .int .i64 pivot6]) H (fun v H2 _ => tupV v fun vs => d2 vs fun wv0 wv1 => liftI .i64 wv0 fun r195 => liftB wv1 fun r196 => K r195 r196 H2) = slices_partitionOrdered_uint32.F datap1 datal2 datac3 a4 bq5 pivot6 H K := by kernel_rfl
theorem slices_partitionOrdered_uint32.of (datap1 : Option Addr) (datal2 : Nat) (datac3 : Nat) (a4 : Int) (bq5 : Int) (pivot6 : Int) {H : Hp} {K : Int → Bool → Hp → Prop} (h : slices_partitionOrdered_uint32.F datap1 datal2 datac3 a4 bq5 pivot6 H K) : slices_partitionOrdered_uint32.C datap1 datal2 datac3 a4 bq5 pivot6 H K := CallH_of_vc mix tabOk Try.func81 (by kernel_rfl) ((slices_partitionOrdered_uint32.vc datap1 datal2 datac3 a4 bq5 pivot6 H K).mpr h)
-- math/bits.Len64 (83)
def math_bits_Len64.ann : Ann := { loops := [], pars := [] }
def math_bits_Len64.k3 (K : Int → Hp → Prop) (x10 : Int) (n11 : Int) (Hx12 : Hp) : Prop :=
  IDX (IntKind.wrap .u8 x10) (bs [0, 1, 2, 2, 3, 3, 3, 3, 4, 4, 4, 4, 4, 4, 4, 4, 5, 5, 5, 5, 5, 5, 5, 5, 5, 5, 5, 5, 5, 5, 5, 5, 6, 6, 6, 6, 6, 6, 6, 6, 6, 6, 6, 6, 6, 6, 6, 6, 6, 6, 6, 6, 6, 6, 6, 6, 6, 6, 6, 6, 6, 6, 6, 6, 7, 7, 7, 7, 7, 7, 7, 7, 7, 7, 7, 7, 7, 7, 7, 7, 7, 7, 7, 7, 7, 7, 7, 7, 7, 7, 7, 7, 7, 7, 7, 7, 7, 7, 7, 7, 7, 7, 7, 7, 7, 7, 7, 7, 7, 7, 7, 7, 7, 7, 7, 7, 7, 7, 7, 7, 7, 7, 7, 7, 7, 7, 7, 7, 8, 8, 8, 8, 8, 8, 8, 8, 8, 8, 8, 8, 8, 8, 8, 8, 8, 8, 8, 8, 8, 8, 8, 8, 8, 8, 8, 8, 8, 8, 8, 8, 8, 8, 8, 8, 8, 8, 8, 8, 8, 8, 8, 8, 8, 8, 8, 8, 8, 8, 8, 8, 8, 8, 8, 8, 8, 8, 8, 8, 8, 8, 8, 8, 8, 8, 8, 8, 8, 8, 8, 8, 8, 8, 8, 8, 8, 8, 8, 8, 8, 8, 8, 8, 8, 8, 8, 8, 8, 8, 8, 8, 8, 8, 8, 8, 8, 8, 8, 8, 8, 8, 8, 8, 8, 8, 8, 8, 8, 8, 8, 8, 8, 8, 8, 8, 8, 8, 8, 8, 8, 8, 8, 8, 8, 8, 8, 8]).size fun k13 => CHK .i64 (((bs [0, 1, 2, 2, 3, 3, 3, 3, 4, 4, 4, 4, 4, 4, 4, 4, 5, 5, 5, 5, 5, 5, 5, 5, 5, 5, 5, 5, 5, 5, 5, 5, 6, 6, 6, 6, 6, 6, 6, 6, 6, 6, 6, 6, 6, 6, 6, 6, 6, 6, 6, 6, 6, 6, 6, 6, 6, 6, 6, 6, 6, 6, 6, 6, 7, 7, 7, 7, 7, 7, 7, 7, 7, 7, 7, 7, 7, 7, 7, 7, 7, 7, 7, 7, 7, 7, 7, 7, 7, 7, 7, 7, 7, 7, 7, 7, 7, 7, 7, 7, 7, 7, 7, 7, 7, 7, 7, 7, 7, 7, 7, 7, 7, 7, 7, 7, 7, 7, 7, 7, 7, 7, 7, 7, 7, 7, 7, 7, 8, 8, 8, 8, 8, 8, 8, 8, 8, 8, 8, 8, 8, 8, 8, 8, 8, 8, 8, 8, 8, 8, 8, 8, 8, 8, 8, 8, 8, 8, 8, 8, 8, 8, 8, 8, 8, 8, 8, 8, 8, 8, 8, 8, 8, 8, 8, 8, 8, 8, 8, 8, 8, 8, 8, 8, 8, 8, 8, 8, 8, 8, 8, 8, 8, 8, 8, 8, 8, 8, 8, 8, 8, 8, 8, 8, 8, 8, 8, 8, 8, 8, 8, 8, 8, 8, 8, 8, 8, 8, 8, 8, 8, 8, 8, 8, 8, 8, 8, 8, 8, 8, 8, 8, 8, 8, 8, 8, 8, 8, 8, 8, 8, 8, 8, 8, 8, 8, 8, 8, 8, 8, 8, 8, 8, 8, 8, 8]).data.toList.getD k13 0).toNat : Int) fun x14 => CHK .i64 (n11 + x14) fun x15 => K x15 Hx12
def math_bits_Len64.k2 (K : Int → Hp → Prop) (x6 : Int) (n7 : Int) (Hx8 : Hp) : Prop :=
  bc ((decide ((256 : Int) ≤ x6))) (0 ≤ (8 : Int) ∧ (CHK .i64 (n7 + (8 : Int)) fun x9 => math_bits_Len64.k3 K (ishr .u64 x6 (8 : Int)) x9 Hx8)) (math_bits_Len64.k3 K x6 n7 Hx8)
def math_bits_Len64.k1 (K : Int → Hp → Prop) (x2 : Int) (n3 : Int) (Hx4 : Hp) : Prop :=
  bc ((decide ((65536 : Int) ≤ x2))) (0 ≤ (16 : Int) ∧ (CHK .i64 (n3 + (16 : Int)) fun x5 => math_bits_Len64.k2 K (ishr .u64 x2 (16 : Int)) x5 Hx4)) (math_bits_Len64.k2 K x2 n3 Hx4)
def math_bits_Len64.F (x1 : Int) (H : Hp) (K : Int → Hp → Prop) : Prop :=
  bc ((decide ((4294967296 : Int) ≤ x1))) (0 ≤ (32 : Int) ∧ (math_bits_Len64.k1 K (ishr .u64 x1 (32 : Int)) (32 : Int) H)) (math_bits_Len64.k1 K x1 (0 : Int) H)
theorem math_bits_Len64.vc (x1 : Int) (H : Hp) (K : Int → Hp → Prop) : vcFun prog tab math_bits_Len64.ann none Try.f83 (List.map AV.v [.int .u64 x1]) H (fun v H2 _ => liftI .i64 v fun r29 => K r29 H2) = math_bits_Len64.F x1 H K := by kernel_rfl
theorem math_bits_Len64.of (x1 : Int) {H : Hp} {K : Int → Hp → Prop} (h : math_bits_Len64.F x1 H K) : math_bits_Len64.C x1 H K := CallH_of_vc mix tabOk Try.func83 (by kernel_rfl) ((math_bits_Len64.vc x1 H K).mpr h)
-- slices.AppendSeq[[]uint32,uint32] (84)
def slices_AppendSeq_uint32_uint32.ann : Ann := { loops := [], pars := [(7, .one (.int .u32))] }
def slices_AppendSeq_uint32_uint32.F (sp1 : Option Addr) (sl2 : Nat) (sc3 : Nat) (seq4 : Value) (H : Hp) (K : Option Addr → Nat → Nat → Hp → Prop) : Prop :=
  NEW H [.slice sp1 sl2 sc3] fun bq5 Hx6 => ITERV prog seq4 Hx6 (fun vals Hx8 Kbq9 => d1 vals fun w0 => liftI .u32 w0 fun z7 => ldL (rd Hx8 bq5 0) fun xp10 xl11 xc12 => NEW Hx8 ([.int .u32 z7]) fun bq13 Hx14 => APP Hx14 te_uint32 xp10 xl11 xc12 (.slice (some ⟨bq13, 0, none⟩) 1 1) fun xp15 xl16 xc17 Hx18 => ST Hx18 bq5 0 (.slice xp15 xl16 xc17) fun Hx19 => Kbq9 .on Hx19) (fun al20 Hx21 => alC al20 (ldL (rd Hx21 bq5 0) fun xp24 xl25 xc26 => K xp24 xl25 xc26 Hx21) fun _ _ => True)
theorem slices_AppendSeq_uint32_uint32.vc (sp1 : Option Addr) (sl2 : Nat) (sc3 : Nat) (seq4 : Value) (H : Hp) (K : Option Addr → Nat → Nat → Hp → Prop) : vcFun prog tab slices_AppendSeq_uint32_uint32.ann none Try.f84 (List.map AV.v [.slice sp1 sl2 sc3, seq4]) H (fun v H2 _ => liftL v fun rp30 rl31 rc32 => K rp30 rl31 rc32 H2) = slices_AppendSeq_uint32_uint32.F sp1 sl2 sc3 seq4 H K := by kernel_rfl
theorem slices_AppendSeq_uint32_uint32.of (sp1 : Option Addr) (sl2 : Nat) (sc3 : Nat) (seq4 : Value) {H : Hp} {K : Option Addr → Nat → Nat → Hp → Prop} (h : slices_AppendSeq_uint32_uint32.F sp1 sl2 sc3 seq4 H K) : slices_AppendSeq_uint32_uint32.C sp1 sl2 sc3 seq4 H K := CallH_of_vc mix tabOk Try.func84 (by kernel_rfl) ((slices_AppendSeq_uint32_uint32.vc sp1 sl2 sc3 seq4 H K).mpr h)
-- cmp.isNaN[string] (85)
def cmp_isNaN_string.ann : Ann := { loops := [], pars := [] }
def cmp_isNaN_string.F (x1 : ByteArray) (H : Hp) (K : Bool → Hp → Prop) : Prop :=
  K (decide (¬ x1 = x1)) H
theorem cmp_isNaN_string.vc (x1 : ByteArray) (H : Hp) (K : Bool → Hp → Prop) : vcFun prog tab cmp_isNaN_string.ann none Try.f85 (List.map AV.v [.string x1]) H (fun v H2 _ => liftB v fun r3 => K r3 H2) = cmp_isNaN_string.F x1 H K := by kernel_rfl
theorem cmp_isNaN_string.of (x1 : ByteArray) {H : Hp} {K : Bool → Hp → Prop} (h : cmp_isNaN_string.F x1 H K) : cmp_isNaN_string.C x1 H K := CallH_of_vc mix tabOk Try.func85 (by kernel_rfl) ((cmp_isNaN_string.vc x1 H K).mpr h)
-- cmp.isNaN[uint32] (86)
def cmp_isNaN_uint32.ann : Ann := { loops := [], pars := [] }
def cmp_isNaN_uint32.F (x1 : Int) (H : Hp) (K : Bool → Hp → Prop) : Prop :=
  K (decide (¬ x1 = x1)) H
theorem cmp_isNaN_uint32.vc (x1 : Int) (H : Hp) (K : Bool → Hp → Prop) : vcFun prog tab cmp_isNaN_uint32.ann none Try.f86 (List.map AV.v [.int .u32 x1]) H (fun v H2 _ => liftB v fun r3 => K r3 H2) = cmp_isNaN_uint32.F x1 H K := by kernel_rfl
theorem cmp_isNaN_uint32.of (x1 : Int) {H : Hp} {K : Bool → Hp → Prop} (h : cmp_isNaN_uint32.F x1 H K) : cmp_isNaN_uint32.C x1 H K := CallH_of_vc mix tabOk Try.func86 (by kernel_rfl) ((cmp_isNaN_uint32.vc x1 H K).mpr h)
-- cento/patch.Needs$1 (87)
def patch_Needs_1.ann : Ann := { loops := [], pars := [] }
def patch_Needs_1.F (id1 : Int) (cap2 : Nat) (H : Hp) (K : Bool → Hp → Prop) : Prop :=
  ldI .u32 (rd H cap2 0) fun x3 => K (decide (id1 = x3)) H
theorem patch_Needs_1.vc (id1 : Int) (cap2 : Nat) (H : Hp) (K : Bool → Hp → Prop) : vcFun prog tab patch_Needs_1.ann none Try.f87 (List.map AV.v [.int .u32 id1, .pointer (some ⟨cap2, 0, none⟩)]) H (fun v H2 _ => liftB v fun r5 => K r5 H2) = patch_Needs_1.F id1 cap2 H K := by kernel_rfl
theorem patch_Needs_1.of (id1 : Int) (cap2 : Nat) {H : Hp} {K : Bool → Hp → Prop} (h : patch_Needs_1.F id1 cap2 H K) : patch_Needs_1.C id1 cap2 H K := CallH_of_vc mix tabOk Try.func87 (by kernel_rfl) ((patch_Needs_1.vc id1 cap2 H K).mpr h)
-- cmp.Or[int] (88)
def cmp_Or_int.ann : Ann := { loops := [(0, [(8, .one (.int .i64))])], pars := [] }
def cmp_Or_int.F (valsp1 : Option Addr) (valsl2 : Nat) (_valsc3 : Nat) (H : Hp) (K : Int → Hp → Prop) : Prop :=
  ∃ (Iq6 : Int → Hp → Prop) (mu7 : Int → Hp → Nat), Iq6 (0 : Int) H ∧ ∀ (t4 : Int) (Hx5 : Hp), Iq6 t4 Hx5 → bc ((decide (t4 < ((valsl2 : Nat) : Int)))) (IDX t4 valsl2 fun k8 => NIL valsp1 fun bq9 oq10 => ldI .i64 (rd Hx5 bq9 (oq10 + k8)) fun x11 => bc ((decide (¬ x11 = (0 : Int)))) (K x11 Hx5) (CHK .i64 (t4 + (1 : Int)) fun x13 => Iq6 x13 Hx5 ∧ mu7 x13 Hx5 < mu7 t4 Hx5)) (K (0 : Int) Hx5)
theorem cmp_Or_int.vc (valsp1 : Option Addr) (valsl2 : Nat) (valsc3 : Nat) (H : Hp) (K : Int → Hp → Prop) : vcFun prog tab cmp_Or_int.ann none Try.f88 (List.map AV.v [.slice valsp1 valsl2 valsc3]) H (fun v H2 _ => liftI .i64 v fun r16 => K r16 H2) = cmp_Or_int.F valsp1 valsl2 valsc3 H K := by kernel_rfl
theorem cmp_Or_int.of (valsp1 : Option Addr) (valsl2 : Nat) (valsc3 : Nat) {H : Hp} {K : Int → Hp → Prop} (h : cmp_Or_int.F valsp1 valsl2 valsc3 H K) : cmp_Or_int.C valsp1 valsl2 valsc3 H K := CallH_of_vc mix tabOk Try.func88 (by kernel_rfl) ((cmp_Or_int.vc valsp1 valsl2 valsc3 H K).mpr h)
-- cmp.Compare[int] (89)
def cmp_Compare_int.ann : Ann := { loops := [], pars := [] }
def cmp_Compare_int.F (x1 : Int) (y2 : Int) (H : Hp) (K : Int → Hp → Prop) : Prop :=
  cmp_isNaN_int.C x1 H fun r3 Hx4 => cmp_isNaN_int.C y2 Hx4 fun r6 Hx7 => bc (r3) (bc (r6) (K (0 : Int) Hx7) (K (-1 : Int) Hx7)) (bc (r6) (K (1 : Int) Hx7) (bc ((decide (x1 < y2))) (K (-1 : Int) Hx7) (bc ((decide (y2 < x1))) (K (1 : Int) Hx7) (K (0 : Int) Hx7))))
theorem cmp_Compare_int.vc (x1 : Int) (y2 : Int) (H : Hp) (K : Int → Hp → Prop) : vcFun prog tab cmp_Compare_int.ann none Try.f89 (List.map AV.v [.int .i64 x1, .int .i64 y2]) H (fun v H2 _ => liftI .i64 v fun r15 => K r15 H2) = cmp_Compare_int.F x1 y2 H K := by kernel_rfl
theorem cmp_Compare_int.of (x1 : Int) (y2 : Int) {H : Hp} {K : Int → Hp → Prop} (h : cmp_Compare_int.F x1 y2 H K) : cmp_Compare_int.C x1 y2 H K := CallH_of_vc mix tabOk Try.func89 (by kernel_rfl) ((cmp_Compare_int.vc x1 y2 H K).mpr h)
-- slices.siftDownOrdered[uint32] (90)
def slices_siftDownOrdered_uint32.ann : Ann := { loops := [(0, [(8, .one (.int .i64))])], pars := [] }
def slices_siftDownOrdered_uint32.k1 (Hx8 : Hp) (Iq9 : Int → Hp → Prop) (K : Hp → Prop) (datal2 : Nat) (datap1 : Option Addr) (first6 : Int) (mu10 : Int → Hp → Nat) (root7 : Int) (child30 : Int) (Hx31 : Hp) : Prop :=
  CHK .i64 (first6 + root7) fun x32 => IDX x32 datal2 fun k33 => NIL datap1 fun bq34 oq35 => ldI .u32 (rd Hx31 bq34 (oq35 + k33)) fun x36 => CHK .i64 (first6 + child30) fun x37 => IDX x37 datal2 fun k38 => NIL datap1 fun bq39 oq40 => ldI .u32 (rd Hx31 bq39 (oq40 + k38)) fun x41 => cmp_Less_uint32.C x36 x41 Hx31 fun r42 Hx43 => bc ((!r42)) (K Hx43) (CHK .i64 (first6 + root7) fun x46 => CHK .i64 (first6 + child30) fun x47 => CHK .i64 (first6 + child30) fun x48 => IDX x48 datal2 fun k49 => NIL datap1 fun bq50 oq51 => ldI .u32 (rd Hx43 bq50 (oq51 + k49)) fun x52 => CHK .i64 (first6 + root7) fun x53 => IDX x53 datal2 fun k54 => NIL datap1 fun bq55 oq56 => ldI .u32 (rd Hx43 bq55 (oq56 + k54)) fun x57 => IDX x46 datal2 fun k58 => NIL datap1 fun bq59 oq60 => ST Hx43 bq59 (oq60 + k58) (.int .u32 x52) fun Hx61 => IDX x47 datal2 fun k62 => NIL datap1 fun bq63 oq64 => ST Hx61 bq63 (oq64 + k62) (.int .u32 x57) fun Hx65 => Iq9 child30 Hx65 ∧ mu10 child30 Hx65 < mu10 root7 Hx8)
def slices_siftDownOrdered_uint32.F (datap1 : Option Addr) (datal2 : Nat) (_datac3 : Nat) (lo4 : Int) (hi5 : Int) (first6 : Int) (H : Hp) (K : Hp → Prop) : Prop :=
  ∃ (Iq9 : Int → Hp → Prop) (mu10 : Int → Hp → Nat), Iq9 lo4 H ∧ ∀ (root7 : Int) (Hx8 : Hp), Iq9 root7 Hx8 → CHK .i64 ((2 : Int) * root7) fun x11 => CHK .i64 (x11 + (1 : Int)) fun x12 => bc ((decide (hi5 ≤ x12))) (K Hx8) (CHK .i64 (x12 + (1 : Int)) fun x13 => bc ((decide (x13 < hi5))) (CHK .i64 (first6 + x12) fun x14 => IDX x14 datal2 fun k15 => NIL datap1 fun bq16 oq17 => ldI .u32 (rd Hx8 bq16 (oq17 + k15)) fun x18 => CHK .i64 (first6 + x12) fun x19 => CHK .i64 (x19 + (1 : Int)) fun x20 => IDX x20 datal2 fun k21 => NIL datap1 fun bq22 oq23 => ldI .u32 (rd Hx8 bq22 (oq23 + k21)) fun x24 => cmp_Less_uint32.C x18 x24 Hx8 fun r25 Hx26 => bc (r25) (CHK .i64 (x12 + (1 : Int)) fun x29 => slices_siftDownOrdered_uint32.k1 Hx8 Iq9 K datal2 datap1 first6 mu10 root7 x29 Hx26) (slices_siftDownOrdered_uint32.k1 Hx8 Iq9 K datal2 datap1 first6 mu10 root7 x12 Hx26)) (slices_siftDownOrdered_uint32.k1 Hx8 Iq9 K datal2 datap1 first6 mu10 root7 x12 Hx8))
theorem slices_siftDownOrdered_uint32.vc (datap1 : Option Addr) (datal2 : Nat) (datac3 : Nat) (lo4 : Int) (hi5 : Int) (first6 : Int) (H : Hp) (K : Hp → Prop) : vcFun prog tab slices_siftDownOrdered_uint32.ann none Try.f90 (List.map AV.v [.slice datap1 datal2 datac3, .int .i64 lo4, .int .i64 hi5, .int .i64 first6]) H (fun v H2 _ => tupV v fun vs => d0 vs (K H2)) = slices_siftDownOrdered_uint32.F datap1 datal2 datac3 lo4 hi5 first6 H K := by kernel_rfl
theorem slices_siftDownOrdered_uint32.of (datap1 : Option Addr) (datal2 : Nat) (datac3 : Nat) (lo4 : Int) (hi5 : Int) (first6 : Int) {H : Hp} {K : Hp → Prop} (h : slices_siftDownOrdered_uint32.F datap1 datal2 datac3 lo4 hi5 first6 H K) : slices_siftDownOrdered_uint32.C datap1 datal2 datac3 lo4 hi5 first6 H K := CallH_of_vc mix tabOk Try.func90 (by kernel_rfl) ((slices_siftDownOrdered_uint32.vc datap1 datal2 datac3 lo4 hi5 first6 H K).mpr h)
-- slices.nextPowerOfTwo (91)
def slices_nextPowerOfTwo.ann : Ann := { loops := [], pars := [] }
def slices_nextPowerOfTwo.F (length1 : Int) (H : Hp) (K : Int → Hp → Prop) : Prop :=
  math_bits_Len.C (IntKind.wrap .u64 length1) H fun r2 Hx3 => 0 ≤ r2 ∧ (K (ishl .u64 (1 : Int) r2) Hx3)
theorem slices_nextPowerOfTwo.vc (length1 : Int) (H : Hp) (K : Int → Hp → Prop) : vcFun prog tab slices_nextPowerOfTwo.ann none Try.f91 (List.map AV.v [.int .i64 length1]) H (fun v H2 _ => liftI .u64 v fun r6 => K r6 H2) = slices_nextPowerOfTwo.F length1 H K := by kernel_rfl
theorem slices_nextPowerOfTwo.of (length1 : Int) {H : Hp} {K : Int → Hp → Prop} (h : slices_nextPowerOfTwo.F length1 H K) : slices_nextPowerOfTwo.C length1 H K := CallH_of_vc mix tabOk Try.func91 (by kernel_rfl) ((slices_nextPowerOfTwo.vc length1 H K).mpr h)
-- (*slices.xorshift).Next (92)
def slices_xorshift_Next.ann : Ann := { loops := [], pars := [] }
def slices_xorshift_Next.F (r1 : Option Addr) (H : Hp) (K : Int → Hp → Prop) : Prop :=
  NIL r1 fun bq2 oq3 => ldI .u64 (rd H bq2 oq3) fun x4 => NIL r1 fun bq5 oq6 => ldI .u64 (rd H bq5 oq6) fun x7 => 0 ≤ (13 : Int) ∧ (NIL r1 fun bq8 oq9 => ST H bq8 oq9 (.int .u64 (ixor .u64 x4 (ishl .u64 x7 (13 : Int)))) fun Hx10 => NIL r1 fun bq11 oq12 => ldI .u64 (rd Hx10 bq11 oq12) fun x13 => NIL r1 fun bq14 oq15 => ldI .u64 (rd Hx10 bq14 oq15) fun x16 => 0 ≤ (7 : Int) ∧ (NIL r1 fun bq17 oq18 => ST Hx10 bq17 oq18 (.int .u64 (ixor .u64 x13 (ishr .u64 x16 (7 : Int)))) fun Hx19 => NIL r1 fun bq20 oq21 => ldI .u64 (rd Hx19 bq20 oq21) fun x22 => NIL r1 fun bq23 oq24 => ldI .u64 (rd Hx19 bq23 oq24) fun x25 => 0 ≤ (17 : Int) ∧ (NIL r1 fun bq26 oq27 => ST Hx19 bq26 oq27 (.int .u64 (ixor .u64 x22 (ishl .u64 x25 (17 : Int)))) fun Hx28 => NIL r1 fun bq29 oq30 => ldI .u64 (rd Hx28 bq29 oq30) fun x31 => K x31 Hx28)))
theorem slices_xorshift_Next.vc (r1 : Option Addr) (H : Hp) (K : Int → Hp → Prop) : vcFun prog tab slices_xorshift_Next.ann none Try.f92 (List.map AV.v [.pointer r1]) H (fun v H2 _ => liftI .u64 v fun r33 => K r33 H2) = slices_xorshift_Next.F r1 H K := by kernel_rfl
theorem slices_xorshift_Next.of (r1 : Option Addr) {H : Hp} {K : Int → Hp → Prop} (h : slices_xorshift_Next.F r1 H K) : slices_xorshift_Next.C r1 H K := CallH_of_vc mix tabOk Try.func92 (by kernel_rfl) ((slices_xorshift_Next.vc r1 H K).mpr h)
-- slices.medianAdjacentOrdered[uint32] (93)
def slices_medianAdjacentOrdered_uint32.ann : Ann := { loops := [], pars := [] }
def slices_medianAdjacentOrdered_uint32.F (datap1 : Option Addr) (datal2 : Nat) (datac3 : Nat) (a4 : Int) (swaps5 : Option Addr) (H : Hp) (K : Int → Hp → Prop) : Prop :=
  CHK .i64 (a4 - (1 : Int)) fun x6 => CHK .i64 (a4 + (1 : Int)) fun x7 => slices_medianOrdered_uint32.C datap1 datal2 datac3 x6 a4 x7 swaps5 H fun r8 Hx9 => K r8 Hx9
theorem slices_medianAdjacentOrdered_uint32.vc (datap1 : Option Addr) (datal2 : Nat) (datac3 : Nat) (a4 : Int) (swaps5 : Option Addr) (H : Hp) (K : Int → Hp → Prop) : vcFun prog tab slices_medianAdjacentOrdered_uint32.ann none Try.f93 (List.map AV.v [.slice datap1 datal2 datac3, .int .i64 a4, .pointer swaps5]) H (fun v H2 _ => liftI .i64 v fun r18 => K r18 H2) = slices_medianAdjacentOrdered_uint32.F datap1 datal2 datac3 a4 swaps5 H K := by kernel_rfl
theorem slices_medianAdjacentOrdered_uint32.of (datap1 : Option Addr) (datal2 : Nat) (datac3 : Nat) (a4 : Int) (swaps5 : Option Addr) {H : Hp} {K : Int → Hp → Prop} (h : slices_medianAdjacentOrdered_uint32.F datap1 datal2 datac3 a4 swaps5 H K) : slices_medianAdjacentOrdered_uint32.C datap1 datal2 datac3 a4 swaps5 H K := CallH_of_vc mix tabOk Try.func93 (by kernel_rfl) ((slices_medianAdjacentOrdered_uint32.vc datap1 datal2 datac3 a4 swaps5 H K).mpr h)
-- slices.medianOrdered[uint32] (94)
def slices_medianOrdered_uint32.ann : Ann := { loops := [], pars := [] }
def slices_medianOrdered_uint32.F (datap1 : Option Addr) (datal2 : Nat) (datac3 : Nat) (a4 : Int) (bq5 : Int) (c6 : Int) (swaps7 : Option Addr) (H : Hp) (K : Int → Hp → Prop) : Prop :=
  slices_order2Ordered_uint32.C datap1 datal2 datac3 a4 bq5 swaps7 H fun r8 r9 Hx10 => slices_order2Ordered_uint32.C datap1 datal2 datac3 r9 c6 swaps7 Hx10 fun r17 _ Hx19 => slices_order2Ordered_uint32.C datap1 datal2 datac3 r8 r17 swaps7 Hx19 fun _ r27 Hx28 => K r27 Hx28
theorem slices_medianOrdered_uint32.vc (datap1 : Option Addr) (datal2 : Nat) (datac3 : Nat) (a4 : Int) (bq5 : Int) (c6 : Int) (swaps7 : Option Addr) (H : Hp) (K : Int → Hp → Prop) : vcFun prog tab slices_medianOrdered_uint32.ann none Try.f94 (List.map AV.v [.slice datap1 datal2 datac3, .int .i64 a4, .int .i64 bq5, .int .i64 c6, .pointer swaps7]) H (fun v H2 _ => liftI .i64 v fun r36 => K r36 H2) = slices_medianOrdered_uint32.F datap1 datal2 datac3 a4 bq5 c6 swaps7 H K := by kernel_rfl
theorem slices_medianOrdered_uint32.of (datap1 : Option Addr) (datal2 : Nat) (datac3 : Nat) (a4 : Int) (bq5 : Int) (c6 : Int) (swaps7 : Option Addr) {H : Hp} {K : Int → Hp → Prop} (h : slices_medianOrdered_uint32.F datap1 datal2 datac3 a4 bq5 c6 swaps7 H K) : slices_medianOrdered_uint32.C datap1 datal2 datac3 a4 bq5 c6 swaps7 H K := CallH_of_vc mix tabOk Try.func94 (by kernel_rfl) ((slices_medianOrdered_uint32.vc datap1 datal2 datac3 a4 bq5 c6 swaps7 H K).mpr h)
-- cmp.isNaN[int] (95)
def cmp_isNaN_int.ann : Ann := { loops := [], pars := [] }
def cmp_isNaN_int.F (x1 : Int) (H : Hp) (K : Bool → Hp → Prop) : Prop :=
  K (decide (¬ x1 = x1)) H
theorem cmp_isNaN_int.vc (x1 : Int) (H : Hp) (K : Bool → Hp → Prop) : vcFun prog tab cmp_isNaN_int.ann none Try.f95 (List.map AV.v [.int .i64 x1]) H (fun v H2 _ => liftB v fun r3 => K r3 H2) = cmp_isNaN_int.F x1 H K := by kernel_rfl
theorem cmp_isNaN_int.of (x1 : Int) {H : Hp} {K : Bool → Hp → Prop} (h : cmp_isNaN_int.F x1 H K) : cmp_isNaN_int.C x1 H K := CallH_of_vc mix tabOk Try.func95 (by kernel_rfl) ((cmp_isNaN_int.vc x1 H K).mpr h)
-- slices.order2Ordered[uint32] (96)
def slices_order2Ordered_uint32.ann : Ann := { loops := [], pars := [] }
def slices_order2Ordered_uint32.F (datap1 : Option Addr) (datal2 : Nat) (_datac3 : Nat) (a4 : Int) (bq5 : Int) (swaps6 : Option Addr) (H : Hp) (K : Int → Int → Hp → Prop) : Prop :=
  IDX bq5 datal2 fun k7 => NIL datap1 fun bq8 oq9 => ldI .u32 (rd H bq8 (oq9 + k7)) fun x10 => IDX a4 datal2 fun k11 => NIL datap1 fun bq12 oq13 => ldI .u32 (rd H bq12 (oq13 + k11)) fun x14 => cmp_Less_uint32.C x10 x14 H fun r15 Hx16 => bc (r15) (NIL swaps6 fun bq19 oq20 => ldI .i64 (rd Hx16 bq19 oq20) fun x21 => CHK .i64 (x21 + (1 : Int)) fun x22 => NIL swaps6 fun bq23 oq24 => ST Hx16 bq23 oq24 (.int .i64 x22) fun Hx25 => K bq5 a4 Hx25) (K a4 bq5 Hx16)
theorem slices_order2Ordered_uint32.vc (datap1 : Option Addr) (datal2 : Nat) (datac3 : Nat) (a4 : Int) (bq5 : Int) (swaps6 : Option Addr) (H : Hp) (K : Int → Int → Hp → Prop) : vcFun prog tab slices_order2Ordered_uint32.ann none Try.f96 (List.map AV.v [.slice datap1 datal2 datac3, .int .i64 a4, .int .i64 bq5, .pointer swaps6]) H (fun v H2 _ => tupV v fun vs => d2 vs fun wv0 wv1 => liftI .i64 wv0 fun r30 => liftI .i64 wv1 fun r31 => K r30 r31 H2) = slices_order2Ordered_uint32.F datap1 datal2 datac3 a4 bq5 swaps6 H K := by kernel_rfl
theorem slices_order2Ordered_uint32.of (datap1 : Option Addr) (datal2 : Nat) (datac3 : Nat) (a4 : Int) (bq5 : Int) (swaps6 : Option Addr) {H : Hp} {K : Int → Int → Hp → Prop} (h : slices_order2Ordered_uint32.F datap1 datal2 datac3 a4 bq5 swaps6 H K) : slices_order2Ordered_uint32.C datap1 datal2 datac3 a4 bq5 swaps6 H K := CallH_of_vc mix tabOk Try.func96 (by kernel_rfl) ((slices_order2Ordered_uint32.vc datap1 datal2 datac3 a4 bq5 swaps6 H K).mpr h)
end Go.Proofs.Ytbpbgkpkkklipaa
namespace Go.Proofs.Ytbpbgkpkkklipaa
open Go.V
/-! ### Sorts: how many bits a number has -/
def lenTab : List UInt8 := [0, 1, 2, 2, 3, 3, 3, 3, 4, 4, 4, 4, 4, 4, 4, 4, 5, 5, 5, 5, 5, 5, 5, 5, 5, 5, 5, 5, 5, 5, 5, 5, 6, 6, 6, 6, 6, 6, 6, 6, 6, 6, 6, 6, 6, 6, 6, 6, 6, 6, 6, 6, 6, 6, 6, 6, 6, 6, 6, 6, 6, 6, 6, 6, 7, 7, 7, 7, 7, 7, 7, 7, 7, 7, 7, 7, 7, 7, 7, 7, 7, 7, 7, 7, 7, 7, 7, 7, 7, 7, 7, 7, 7, 7, 7, 7, 7, 7, 7, 7, 7, 7, 7, 7, 7, 7, 7, 7, 7, 7, 7, 7, 7, 7, 7, 7, 7, 7, 7, 7, 7, 7, 7, 7, 7, 7, 7, 7, 8, 8, 8, 8, 8, 8, 8, 8, 8, 8, 8, 8, 8, 8, 8, 8, 8, 8, 8, 8, 8, 8, 8, 8, 8, 8, 8, 8, 8, 8, 8, 8, 8, 8, 8, 8, 8, 8, 8, 8, 8, 8, 8, 8, 8, 8, 8, 8, 8, 8, 8, 8, 8, 8, 8, 8, 8, 8, 8, 8, 8, 8, 8, 8, 8, 8, 8, 8, 8, 8, 8, 8, 8, 8, 8, 8, 8, 8, 8, 8, 8, 8, 8, 8, 8, 8, 8, 8, 8, 8, 8, 8, 8, 8, 8, 8, 8, 8, 8, 8, 8, 8, 8, 8, 8, 8, 8, 8, 8, 8, 8, 8, 8, 8, 8, 8, 8, 8, 8, 8, 8, 8, 8, 8, 8, 8, 8, 8]
theorem lenTab_all : (List.range 256).all (fun k => decide ((lenTab.getD k 0).toNat = Sort.bitsLen k)) = true := by kernel_rfl
theorem lenTab_at {k : Nat} (h : k < 256) : (lenTab.getD k 0).toNat = Sort.bitsLen k := of_decide_eq_true (List.all_eq_true.1 lenTab_all k (List.mem_range.2 h))
theorem bitsLen_shift {n s : Nat} (h : 2 ^ s ≤ n) : Sort.bitsLen n = Sort.bitsLen (n / 2 ^ s) + s := by
  have hp : 0 < 2 ^ s := Nat.pow_pos (by decide)
  have h1 := Sort.lt_two_pow_bitsLen n
  have h2 := Sort.lt_two_pow_bitsLen (n / 2 ^ s)
  have hs : s ≤ Sort.bitsLen n := by
    rcases Nat.lt_or_ge (Sort.bitsLen n) s with h3 | h3
    · have := (Sort.bitsLen_le_iff n (s - 1)).1 (by omega)
      have h4 : 2 ^ (s - 1) ≤ 2 ^ s := Nat.pow_le_pow_right (by decide) (by omega)
      omega
    · exact h3
  refine Nat.le_antisymm ((Sort.bitsLen_le_iff _ _).2 ?_) ?_
  · rw [Nat.pow_add]
    exact (Nat.div_lt_iff_lt_mul hp).1 h2
  · have : Sort.bitsLen (n / 2 ^ s) ≤ Sort.bitsLen n - s := (Sort.bitsLen_le_iff _ _).2 ((Nat.div_lt_iff_lt_mul hp).2 (by rw [← Nat.pow_add, Nat.sub_add_cancel hs]; exact h1))
    omega
theorem bitsLen_le64 {n : Nat} (h : n < 4294967296) : Sort.bitsLen n ≤ 32 := (Sort.bitsLen_le_iff n 32).2 (by simpa using h)
theorem math_bits_Len64.k3c {n m : Nat} {K : Int → Hp → Prop} {H : Hp} (hn : n < 256) (hm : m ≤ 1000) (hK : K ((m + Sort.bitsLen n : Nat) : Int) H) : math_bits_Len64.k3 K (n : Nat) (m : Nat) H := by
  unfold math_bits_Len64.k3
  have hb := bitsLen_le64 (n := n) (by omega)
  refine idxN n ?_ (show n < (bs lenTab).size from Nat.lt_of_lt_of_eq hn (by kernel_rfl)) ?_
  · rw [show ∀ x : Int, IntKind.wrap .u8 x = x % 256 from fun x => by simp [IntKind.wrap, IntKind.bits, IntKind.signed]]; omega
  show CHK .i64 (((lenTab.getD n 0).toNat : Nat) : Int) _
  rw [lenTab_at hn]
  exact chk (by omega) (chk (by omega) (by rw [← Int.natCast_add]; exact hK))
theorem math_bits_Len64.c {n : Nat} {K : Int → Hp → Prop} {H : Hp} (hn : n < 4294967296) (hK : K ((Sort.bitsLen n : Nat) : Int) H) : math_bits_Len64.C (n : Nat) H K := by
  apply math_bits_Len64.of
  have k2 : ∀ (x m : Nat), x < 65536 → m ≤ 100 → Sort.bitsLen n = m + Sort.bitsLen x → math_bits_Len64.k2 K (x : Nat) (m : Nat) H := by
    intro x m hx hm e
    unfold math_bits_Len64.k2
    refine bcd (fun h => ⟨by decide, chk (by omega) ?_⟩) fun h => math_bits_Len64.k3c (by omega) (by omega) (by rw [← e]; exact hK)
    have := ishr_N x 8 (by decide)
    rw [show ((8 : Nat) : Int) = 8 from rfl] at this
    rw [this, show ((m : Nat) : Int) + 8 = ((m + 8 : Nat) : Int) by omega]
    refine math_bits_Len64.k3c (by omega) (by omega) ?_
    have h8 := bitsLen_shift (n := x) (s := 8) (by omega)
    rw [show m + 8 + Sort.bitsLen (x / 2 ^ 8) = Sort.bitsLen n by omega]; exact hK
  refine bcd (fun h => absurd h (by omega)) fun _ => ?_
  unfold math_bits_Len64.k1
  refine bcd (fun h => ⟨by decide, chk (by omega) ?_⟩) fun h => k2 n 0 (by omega) (by omega) (by omega)
  have := ishr_N n 16 (by decide)
  rw [show ((16 : Nat) : Int) = 16 from rfl] at this
  rw [this]
  have h16 := bitsLen_shift (n := n) (s := 16) (by omega)
  exact k2 (n / 2 ^ 16) 16 (by omega) (by omega) (by omega)
theorem math_bits_Len.c {n : Nat} {K : Int → Hp → Prop} {H : Hp} (hn : n < 4294967296) (hK : K ((Sort.bitsLen n : Nat) : Int) H) : math_bits_Len.C (n : Nat) H K := by
  apply math_bits_Len.of
  exact math_bits_Len64.c hn hK
theorem slices_nextPowerOfTwo.c {n : Nat} {K : Int → Hp → Prop} {H : Hp} (hn : n < 4294967296) (hK : K ((2 ^ Sort.bitsLen n : Nat) : Int) H) : slices_nextPowerOfTwo.C (n : Nat) H K := by
  apply slices_nextPowerOfTwo.of
  unfold slices_nextPowerOfTwo.F
  rw [wrapU n (by omega)]
  refine math_bits_Len.c hn ⟨by omega, ?_⟩
  rw [ishl_1s _ (by have := bitsLen_le64 hn; omega)]; exact hK
theorem slices_xorshift_Next.c {q : Nat} {n : Int} {K : Int → Hp → Prop} {H : Hp} (hq : rd H q 0 = some (.int .u64 n)) (hK : ∀ m H', rd H' q 0 = some (.int .u64 m) → Mod [q] H H' → K m H') : slices_xorshift_Next.C (some ⟨q, 0, none⟩) H K := by
  apply slices_xorshift_Next.of
  refine nil (ldI_i hq (nil (ldI_i hq ⟨by decide, nil (st hq ?_)⟩)))
  have r1 := rd_wr_self (v := .int .u64 (ixor .u64 n (ishl .u64 n 13))) hq
  refine nil (ldI_i r1 (nil (ldI_i r1 ⟨by decide, nil (st r1 ?_)⟩)))
  have r2 := rd_wr_self (v := .int .u64 (ixor .u64 (ixor .u64 n (ishl .u64 n 13)) (ishr .u64 (ixor .u64 n (ishl .u64 n 13)) 7))) r1
  refine nil (ldI_i r2 (nil (ldI_i r2 ⟨by decide, nil (st r2 ?_)⟩)))
  exact nil (ldI_i (rd_wr_self r2) (hK _ _ (rd_wr_self r2) (((Mod.refl.wr (.inl (by simp))).wr (.inl (by simp))).wr (.inl (by simp)))))
end Go.Proofs.Ytbpbgkpkkklipaa
namespace Go.Proofs.Ytbpbgkpkkklipaa
open Go.V
/-! ### Sorts: numbers -/
abbrev fU (x : Int) : Value := .int .u32 x
theorem cmp_Less_uint32.c {x y : Int} {H : Hp} {K : Bool → Hp → Prop} (hK : K (Sort.ltInt x y) H) : cmp_Less_uint32.C x y H K := by
  apply cmp_Less_uint32.of
  refine cmp_isNaN_uint32.of x ?_
  exact bcd (fun h => absurd rfl h) fun _ => hK
theorem rdU {H : Hp} {p : Option Addr} {l : Nat} {d : Array Int} (h : A1 fU H p l d) (k : Nat) {e : Int} (he : e = (k : Int)) (hk : k < d.size) {F : Int → Prop} (hF : F d[k]!) : IDX e l fun k => NIL p fun b o => ldI .u32 (rd H b (o + k)) F := A1.I (g := fun x => x) h (fun _ => rfl) k he hk hF
theorem swU {H : Hp} {p : Option Addr} {l : Nat} {d : Array Int} (h : A1 fU H p l d) {i j : Nat} {ei ej : Int} (hi : i < d.size) (hj : j < d.size) (hei : ei = (i : Int)) (hej : ej = (j : Int)) {F : Hp → Prop}
    (hF : ∀ H', A1 fU H' p l (Sort.swp d i j) → Mod (blkL p) H H' → F H') : IDX ei l fun k => NIL p fun b o => ST H b (o + k) (.int .u32 d[j]!) fun H1 => IDX ej l fun k => NIL p fun b o => ST H1 b (o + k) (.int .u32 d[i]!) F := A1.sw h (fun _ => rfl) hi hj hei hej hF
section
variable {H : Hp} {p : Option Addr} {l cc : Nat} {d : Array Int}
theorem slices_insertionSortOrdered_uint32.c {a b : Nat} {K : Hp → Prop} (h : A1 fU H p l d) (hab : a ≤ b) (hb : b ≤ d.size) (hl : l ≤ 1000000000)
    (hK : ∀ H' d', A1 fU H' p l d' → Mod (blkL p) H H' → Sort.PermIn a b d d' → Sort.SortedIn Sort.ltInt a b d' → K H') : slices_insertionSortOrdered_uint32.C p l cc (a : Nat) (b : Nat) H K := by
  apply slices_insertionSortOrdered_uint32.of
  have hl0 := h.1
  obtain ⟨hp1, hp2⟩ := Sort.insertionSort_holds (lt := Sort.ltInt) Sort.swo_ltInt d a b hab hb
  refine chk (by omega) ?_
  refine ⟨fun i Hx => ∃ (i' : Nat) (d1 : Array Int), i = (i' : Nat) ∧ a + 1 ≤ i' ∧ (i' ≤ b ∨ i' = a + 1) ∧ d1.size = d.size ∧ A1 fU Hx p l d1 ∧ Mod (blkL p) H Hx ∧ Sort.insOuter Sort.ltInt a b i' d1 = Sort.insertionSort Sort.ltInt d a b, fun i _ => ((b : Int) - i).toNat, ⟨a + 1, d, by omega, by omega, .inr rfl, rfl, h, Mod.refl, rfl⟩, ?_⟩
  rintro i Hx ⟨i, d1, rfl, g1, g2, gs, h1, m1, e1⟩
  refine bcd (fun hlt => ?_) fun hlt => ?_
  · have e2 : Sort.insOuter Sort.ltInt a b (i + 1) (Sort.insInner Sort.ltInt a i d1) = Sort.insertionSort Sort.ltInt d a b := by rw [← e1]; conv => rhs; rw [Sort.insOuter, if_pos (by omega)]
    have go : ∀ (Hy : Hp) (d2 : Array Int), d2.size = d.size → A1 fU Hy p l d2 → Mod (blkL p) H Hy → d2 = Sort.insInner Sort.ltInt a i d1 → CHK .i64 (((i : Nat) : Int) + (1 : Int)) fun x => (∃ (i' : Nat) (d1 : Array Int), x = (i' : Nat) ∧ a + 1 ≤ i' ∧ (i' ≤ b ∨ i' = a + 1) ∧ d1.size = d.size ∧ A1 fU Hy p l d1 ∧ Mod (blkL p) H Hy ∧ Sort.insOuter Sort.ltInt a b i' d1 = Sort.insertionSort Sort.ltInt d a b) ∧ ((b : Int) - x).toNat < ((b : Int) - ((i : Nat) : Int)).toNat := fun Hy d2 s2 h2 m2 e =>
      chk (by omega) ⟨⟨i + 1, d2, by omega, by omega, .inl (by omega), s2, h2, m2, by rw [e]; exact e2⟩, by omega⟩
    refine ⟨fun j Hy => ∃ (j' : Nat) (d2 : Array Int), j = (j' : Nat) ∧ a ≤ j' ∧ j' ≤ i ∧ d2.size = d.size ∧ A1 fU Hy p l d2 ∧ Mod (blkL p) H Hy ∧ Sort.insInner Sort.ltInt a j' d2 = Sort.insInner Sort.ltInt a i d1, fun j _ => j.toNat, ⟨i, d1, rfl, by omega, Nat.le_refl _, gs, h1, m1, rfl⟩, ?_⟩
    rintro j Hy ⟨j, d2, rfl, k1, k2, s2, h2, m2, e3⟩
    refine bcd (fun hj => ?_) fun hj => ?_
    · obtain ⟨w, rfl⟩ : ∃ w, j = w + 1 := ⟨j - 1, by omega⟩
      refine rdU h2 (w + 1) rfl (by omega) (chk (by omega) (rdU h2 w (by omega) (by omega) (cmp_Less_uint32.c ?_)))
      refine bc_i (fun hc => ?_) fun hc => ?_
      · unfold slices_insertionSortOrdered_uint32.k1
        refine chk (by omega) (chk (by omega) (rdU h2 w (by omega) (by omega) (rdU h2 (w + 1) rfl (by omega) (swU h2 (i := w + 1) (j := w) (by omega) (by omega) rfl (by omega) fun H3 h3 m3 => chk (by omega) ⟨⟨w, _, by omega, by omega, by omega, by rw [Sort.swp_size]; exact s2, h3, m2.trans m3, ?_⟩, by first | omega | (dsimp only; omega)⟩))))
        rw [← e3]; conv => rhs; rw [Sort.insInner, if_pos (by rw [hc, Bool.and_true, decide_eq_true_eq]; omega)]
      · refine go Hy d2 s2 h2 m2 ?_
        rw [← e3, Sort.insInner, if_neg (by rw [hc]; simp)]
    · refine go Hy d2 s2 h2 m2 ?_
      rw [← e3]
      have : j = a := by omega
      subst this
      cases j with
      | zero => rfl
      | succ j => rw [Sort.insInner, if_neg (by simp)]
  · have e4 : d1 = Sort.insertionSort Sort.ltInt d a b := by
      rw [← e1, Sort.insOuter, if_neg (by omega)]
    rw [← e4] at hp1 hp2
    exact hK Hx d1 h1 m1 hp1 hp2
theorem slices_siftDownOrdered_uint32.c {lo hi first : Nat} {K : Hp → Prop} (h : A1 fU H p l d) (hf : first + hi ≤ d.size) (hlo : lo ≤ 1000000000) (hl : l ≤ 1000000000)
    (hK : ∀ H', A1 fU H' p l (Sort.siftDown Sort.ltInt hi first lo d) → Mod (blkL p) H H' → (Sort.siftDown Sort.ltInt hi first lo d).size = d.size → K H') : slices_siftDownOrdered_uint32.C p l cc (lo : Nat) (hi : Nat) (first : Nat) H K := by
  apply slices_siftDownOrdered_uint32.of
  have hl0 := h.1
  refine ⟨fun r Hx => ∃ (r' : Nat) (d1 : Array Int), r = (r' : Nat) ∧ r' ≤ 1000000000 ∧ d1.size = d.size ∧ A1 fU Hx p l d1 ∧ Mod (blkL p) H Hx ∧ Sort.siftDown Sort.ltInt hi first r' d1 = Sort.siftDown Sort.ltInt hi first lo d, fun r _ => ((hi : Int) - r).toNat, ⟨lo, d, rfl, hlo, rfl, h, Mod.refl, rfl⟩, ?_⟩
  rintro r Hx ⟨r, d1, rfl, g1, gs, h1, m1, e1⟩
  have fin : ∀ Hy, Sort.siftDown Sort.ltInt hi first r d1 = d1 → A1 fU Hy p l d1 → Mod (blkL p) H Hy → K Hy := fun Hy e hA hM => hK Hy (by rw [← e1, e]; exact hA) hM (by rw [← e1, e]; exact gs)
  refine chk (by omega) (chk (by omega) (bcd (fun hge => fin Hx (by rw [Sort.siftDown, dif_pos (by omega)]) h1 m1) fun hlt => ?_))
  have go : ∀ (ch : Nat) (Hy : Hp), Hy = Hx → (ch = 2 * r + 1 ∨ ch = 2 * r + 2) → ch < hi → (Sort.ltInt d1[first + r]! d1[first + ch]! = false → Sort.siftDown Sort.ltInt hi first r d1 = d1) → (Sort.ltInt d1[first + r]! d1[first + ch]! = true → Sort.siftDown Sort.ltInt hi first r d1 = Sort.siftDown Sort.ltInt hi first ch (Sort.swp d1 (first + r) (first + ch))) →
      slices_siftDownOrdered_uint32.k1 Hx (fun r Hx => ∃ (r' : Nat) (d1 : Array Int), r = (r' : Nat) ∧ r' ≤ 1000000000 ∧ d1.size = d.size ∧ A1 fU Hx p l d1 ∧ Mod (blkL p) H Hx ∧ Sort.siftDown Sort.ltInt hi first r' d1 = Sort.siftDown Sort.ltInt hi first lo d) K l p (first : Nat) (fun r _ => ((hi : Int) - r).toNat) (r : Nat) (ch : Nat) Hy := by
    intro ch Hy hHy hch hchi hs hn
    subst hHy
    unfold slices_siftDownOrdered_uint32.k1
    refine chk (by omega) (rdU h1 (first + r) (by omega) (by omega) (chk (by omega) (rdU h1 (first + ch) (by omega) (by omega) (cmp_Less_uint32.c ?_))))
    refine bcn (fun hc => fin _ (hs hc) h1 m1) fun hc => ?_
    refine chk (by omega) (chk (by omega) (chk (by omega) (rdU h1 (first + ch) (by omega) (by omega) (chk (by omega) (rdU h1 (first + r) (by omega) (by omega) (swU h1 (i := first + r) (j := first + ch) (by omega) (by omega) (by omega) (by omega) fun H3 h3 m3 => ?_))))))
    exact ⟨⟨ch, _, rfl, by omega, by rw [Sort.swp_size]; exact gs, h3, m1.trans m3, by rw [← e1, hn hc]⟩, by first | omega | (dsimp only; omega)⟩
  have e0 : 2 * ((r : Nat) : Int) + 1 = ((2 * r + 1 : Nat) : Int) := by omega
  rw [e0] at hlt ⊢
  have h21 : 2 * r + 1 < hi := by omega
  have lft : ¬ (decide (2 * r + 1 + 1 < hi) && Sort.ltInt d1[first + (2 * r + 1)]! d1[first + (2 * r + 1) + 1]!) = true → ∀ Hy, Hy = Hx → slices_siftDownOrdered_uint32.k1 Hx (fun r Hx => ∃ (r' : Nat) (d1 : Array Int), r = (r' : Nat) ∧ r' ≤ 1000000000 ∧ d1.size = d.size ∧ A1 fU Hx p l d1 ∧ Mod (blkL p) H Hx ∧ Sort.siftDown Sort.ltInt hi first r' d1 = Sort.siftDown Sort.ltInt hi first lo d) K l p (first : Nat) (fun r _ => ((hi : Int) - r).toNat) (r : Nat) ((2 * r + 1 : Nat) : Int) Hy := fun hno Hy hHy => by
    refine go (2 * r + 1) Hy hHy (.inl rfl) h21 (fun hc => ?_) fun hc => ?_
    · rw [Sort.siftDown, dif_neg (by omega), if_neg hno, if_pos (by rw [hc]; rfl)]
    · rw [Sort.siftDown, dif_neg (by omega), if_neg hno, if_neg (by rw [hc]; decide)]
  refine chk (by omega) (bcd (fun hlt2 => ?_) fun hlt2 => lft (by rw [decide_eq_false (by omega)]; simp) Hx rfl)
  refine chk (by omega) (rdU h1 (first + (2 * r + 1)) (by omega) (by omega) (chk (by omega) (chk (by omega) (rdU h1 (first + (2 * r + 1) + 1) (by omega) (by omega) (cmp_Less_uint32.c ?_)))))
  refine bc_i (fun hc => ?_) fun hc => lft (by rw [hc, Bool.and_false]; decide) Hx rfl
  refine chk (by omega) ?_
  rw [show ((2 * r + 1 : Nat) : Int) + 1 = ((2 * r + 2 : Nat) : Int) by omega]
  refine go (2 * r + 2) Hx rfl (.inr rfl) (by omega) (fun hc2 => ?_) fun hc2 => ?_
  · rw [Sort.siftDown, dif_neg (by omega), if_pos (by rw [hc, Bool.and_true, decide_eq_true_eq]; omega), if_pos (by rw [hc2]; rfl)]
  · rw [Sort.siftDown, dif_neg (by omega), if_pos (by rw [hc, Bool.and_true, decide_eq_true_eq]; omega), if_neg (by rw [hc2]; decide), dif_pos (by omega)]
theorem slices_heapSortOrdered_uint32.c {a b : Nat} {K : Hp → Prop} (h : A1 fU H p l d) (hab : a ≤ b) (hb : b ≤ d.size) (hl : l ≤ 1000000000)
    (hK : ∀ H' d', A1 fU H' p l d' → Mod (blkL p) H H' → Sort.PermIn a b d d' → Sort.SortedIn Sort.ltInt a b d' → K H') : slices_heapSortOrdered_uint32.C p l cc (a : Nat) (b : Nat) H K := by
  apply slices_heapSortOrdered_uint32.of
  have hl0 := h.1
  obtain ⟨hp1, hp2⟩ := Sort.heapSort_holds (lt := Sort.ltInt) Sort.swo_ltInt d a b hab hb
  refine chk (by omega) (chk (by omega) ⟨by decide, ?_⟩)
  have eb : ((b : Nat) : Int) - ((a : Nat) : Int) = ((b - a : Nat) : Int) := by omega
  rw [eb]
  have et : Int.tdiv (((b - a : Nat) : Int) - 1) 2 = (((b - a - 1) / 2 : Nat) : Int) := by
    by_cases h0 : b - a = 0
    · rw [h0]; decide
    · rw [show ((b - a : Nat) : Int) - 1 = ((b - a - 1 : Nat) : Int) by omega]; exact tdivN _ 2
  rw [et]
  refine chk (by omega) ?_
  refine ⟨fun i Hx => ∃ (k : Nat) (d1 : Array Int), i = (k : Int) - 1 ∧ k ≤ (b - a - 1) / 2 + 1 ∧ d1.size = d.size ∧ A1 fU Hx p l d1 ∧ Mod (blkL p) H Hx ∧ Sort.heapBuild Sort.ltInt (b - a) a k d1 = Sort.heapBuild Sort.ltInt (b - a) a ((b - a - 1) / 2 + 1) d, fun i _ => (i + 1).toNat, ⟨(b - a - 1) / 2 + 1, d, by omega, Nat.le_refl _, rfl, h, Mod.refl, rfl⟩, ?_⟩
  rintro i Hx ⟨k, d1, rfl, g1, gs, h1, m1, e1⟩
  refine bcd (fun hge => ?_) fun hge => ?_
  · obtain ⟨w, rfl⟩ : ∃ w, k = w + 1 := ⟨k - 1, by omega⟩
    rw [show ((w + 1 : Nat) : Int) - 1 = (w : Nat) by omega]
    refine slices_siftDownOrdered_uint32.c h1 (by omega) (by omega) hl fun H2 h2 m2 s2 => chk (by omega) ⟨⟨w, _, rfl, by omega, by rw [s2]; exact gs, h2, m1.trans m2, ?_⟩, by first | omega | (dsimp only; omega)⟩
    rw [← e1, Sort.heapBuild]
  · have : k = 0 := by omega
    subst this
    have ed : d1 = Sort.heapBuild Sort.ltInt (b - a) a ((b - a - 1) / 2 + 1) d := by rw [← e1]; rfl
    refine chk (by omega) ?_
    refine ⟨fun i Hy => ∃ (k : Nat) (d2 : Array Int), i = (k : Int) - 1 ∧ k ≤ b - a ∧ d2.size = d.size ∧ A1 fU Hy p l d2 ∧ Mod (blkL p) H Hy ∧ Sort.heapPop Sort.ltInt a k d2 = Sort.heapPop Sort.ltInt a (b - a) d1, fun i _ => (i + 1).toNat, ⟨b - a, d1, rfl, Nat.le_refl _, gs, h1, m1, rfl⟩, ?_⟩
    rintro i Hy ⟨k, d2, rfl, g2, s2, h2, m2, e2⟩
    refine bcd (fun hge => ?_) fun hge => ?_
    · obtain ⟨w, rfl⟩ : ∃ w, k = w + 1 := ⟨k - 1, by omega⟩
      rw [show ((w + 1 : Nat) : Int) - 1 = (w : Nat) by omega]
      refine chk (by omega) (chk (by omega) (rdU h2 (a + w) (by omega) (by omega) (rdU h2 a rfl (by omega) (swU h2 (i := a) (j := a + w) (by omega) (by omega) rfl (by omega) fun H3 h3 m3 => ?_))))
      refine slices_siftDownOrdered_uint32.c (lo := 0) h3 (by rw [Sort.swp_size]; omega) (by omega) hl fun H4 h4 m4 s4 => chk (by omega) ⟨⟨w, _, rfl, by omega, by rw [s4, Sort.swp_size]; exact s2, h4, (m2.trans m3).trans m4, ?_⟩, by first | omega | (dsimp only; omega)⟩
      rw [← e2, Sort.heapPop]
    · have : k = 0 := by omega
      subst this
      have e4 : d2 = Sort.heapSort Sort.ltInt d a b := by
        unfold Sort.heapSort
        rw [← ed, ← e2]; rfl
      rw [← e4] at hp1 hp2
      exact hK Hy d2 h2 m2 hp1 hp2
theorem slices_reverseRangeOrdered_uint32.c {a b : Nat} {K : Hp → Prop} (h : A1 fU H p l d) (hab : a < b) (hb : b ≤ d.size) (hl : l ≤ 1000000000)
    (hK : ∀ H' d', A1 fU H' p l d' → Mod (blkL p) H H' → Sort.PermIn a b d d' → K H') : slices_reverseRangeOrdered_uint32.C p l cc (a : Nat) (b : Nat) H K := by
  apply slices_reverseRangeOrdered_uint32.of
  have hl0 := h.1
  have hp1 := Sort.reverseRange_holds d a b (by omega) hb
  refine chk (by omega) ?_
  refine ⟨fun i j Hx => ∃ (i' j' : Nat) (d1 : Array Int), i = (i' : Nat) ∧ j = (j' : Nat) ∧ a ≤ i' ∧ i' ≤ j' + 1 ∧ j' < b ∧ d1.size = d.size ∧ A1 fU Hx p l d1 ∧ Mod (blkL p) H Hx ∧ Sort.reverseLoop i' j' d1 = Sort.reverseRange d a b, fun i j _ => (j - i).toNat, ⟨a, b - 1, d, rfl, by omega, Nat.le_refl _, by omega, by omega, rfl, h, Mod.refl, rfl⟩, ?_⟩
  rintro i j Hx ⟨i, j, d1, rfl, rfl, g1, g2, g3, gs, h1, m1, e1⟩
  refine bcd (fun hlt => ?_) fun hlt => ?_
  · refine rdU h1 j rfl (by omega) (rdU h1 i rfl (by omega) (swU h1 (i := i) (j := j) (by omega) (by omega) rfl rfl fun H3 h3 m3 => chk (by omega) (chk (by omega) ⟨⟨i + 1, j - 1, _, by omega, by omega, by omega, by omega, by omega, by rw [Sort.swp_size]; exact gs, h3, m1.trans m3, ?_⟩, by first | omega | (dsimp only; omega)⟩)))
    rw [← e1]; conv => rhs; rw [Sort.reverseLoop, if_pos (by omega)]
  · have : d1 = Sort.reverseRange d a b := by rw [← e1, Sort.reverseLoop, if_neg (by omega)]
    rw [← this] at hp1
    exact hK Hx d1 h1 m1 hp1
theorem slices_order2Ordered_uint32.c {q N a b : Nat} {K : Int → Int → Hp → Prop} (h : A1 fU H p l d) (ha : a < d.size) (hb : b < d.size) (hq : SwQ H q N) (hN : N ≤ 1000)
    (hK : ∀ x y H', (x = a ∧ y = b ∨ x = b ∧ y = a) → SwQ H' q (N + 1) → Mod [q] H H' → K (x : Nat) (y : Nat) H') : slices_order2Ordered_uint32.C p l cc (a : Nat) (b : Nat) (some ⟨q, 0, none⟩) H K := by
  apply slices_order2Ordered_uint32.of
  have hl0 := h.1
  obtain ⟨n, q1, q2, q3⟩ := hq
  refine rdU h b rfl hb (rdU h a rfl ha (cmp_Less_uint32.c ?_))
  refine bc_i (fun _ => ?_) fun _ => hK a b H (.inl ⟨rfl, rfl⟩) ⟨n, q1, q2, by omega⟩ Mod.refl
  refine nil (ldI_i q1 (chk (by omega) (nil (st q1 (hK b a _ (.inr ⟨rfl, rfl⟩) ⟨n + 1, rd_wr_self q1, by omega, by omega⟩ (Mod.refl.wr (.inl (by simp))))))))
theorem slices_medianOrdered_uint32.c {q N a b e : Nat} {K : Int → Hp → Prop} (h : A1 fU H p l d) (ha : a < d.size) (hb : b < d.size) (he : e < d.size) (hq : SwQ H q N) (hN : N ≤ 900) (hqp : q ∉ blkL p)
    (hK : ∀ x H', (x = a ∨ x = b ∨ x = e) → SwQ H' q (N + 3) → Mod [q] H H' → K (x : Nat) H') : slices_medianOrdered_uint32.C p l cc (a : Nat) (b : Nat) (e : Nat) (some ⟨q, 0, none⟩) H K := by
  apply slices_medianOrdered_uint32.of
  have hn : ∀ b ∈ blkL p, b ∉ [q] := fun b hb hb' => by simp at hb'; subst hb'; exact hqp hb
  refine slices_order2Ordered_uint32.c h ha hb hq (by omega) fun x y H1 hxy q1 m1 => ?_
  have h1 := A1.mod h m1 hn
  refine slices_order2Ordered_uint32.c h1 (by omega) he q1 (by omega) fun x2 y2 H2 hxy2 q2 m2 => ?_
  have h2 := A1.mod h1 m2 hn
  refine slices_order2Ordered_uint32.c h2 (by omega) (by omega) q2 (by omega) fun x3 y3 H3 hxy3 q3 m3 => ?_
  exact hK y3 H3 (by omega) q3 ((m1.trans m2).trans m3)
theorem slices_medianAdjacentOrdered_uint32.c {q N a : Nat} {K : Int → Hp → Prop} (h : A1 fU H p l d) (h0 : 0 < a) (ha : a + 1 < d.size) (hl : l ≤ 1000000000) (hq : SwQ H q N) (hN : N ≤ 900) (hqp : q ∉ blkL p)
    (hK : ∀ x H', (x = a - 1 ∨ x = a ∨ x = a + 1) → SwQ H' q (N + 3) → Mod [q] H H' → K (x : Nat) H') : slices_medianAdjacentOrdered_uint32.C p l cc (a : Nat) (some ⟨q, 0, none⟩) H K := by
  apply slices_medianAdjacentOrdered_uint32.of
  have hl0 := h.1
  refine chk (by omega) (chk (by omega) ?_)
  rw [show ((a : Nat) : Int) - 1 = ((a - 1 : Nat) : Int) by omega, show ((a : Nat) : Int) + 1 = ((a + 1 : Nat) : Int) by omega]
  exact slices_medianOrdered_uint32.c h (by omega) (by omega) ha hq hN hqp hK
theorem slices_choosePivotOrdered_uint32.c {a b : Nat} {K : Int → Int → Hp → Prop} (h : A1 fU H p l d) (hab : a < b) (hb : b ≤ d.size) (hl : l ≤ 1000000000)
    (hK : ∀ (x : Nat) t H', a ≤ x → x < b → Le H H' → K (x : Nat) t H') : slices_choosePivotOrdered_uint32.C p l cc (a : Nat) (b : Nat) H K := by
  apply slices_choosePivotOrdered_uint32.of
  have hl0 := h.1
  refine chk (by omega) fun q hq => ?_
  have le1 : Le H (upd H q [.int .i64 (0 : Int)]) := Le.upd hq
  have q1 : SwQ (upd H q [.int .i64 (0 : Int)]) q 0 := ⟨0, by rw [rd_upd_self]; rfl, by omega, by omega⟩
  have h1 := A1.le h le1
  have hqp : q ∉ blkL p := fun hx => by
    obtain ⟨b', o', e, hh⟩ := A1.at h (k := 0) (by omega)
    rw [e] at hx
    simp [blkL] at hx
    subst hx
    exact A1.there h (by omega) (by rw [e]; simp [blkL]) hq
  have hn : ∀ b ∈ blkL p, b ∉ [q] := fun b hb hb' => by simp at hb'; subst hb'; exact hqp hb
  generalize upd H q [.int .i64 (0 : Int)] = H1 at *
  rw [show ((b : Nat) : Int) - ((a : Nat) : Int) = ((b - a : Nat) : Int) by omega, show (4 : Int) = ((4 : Nat) : Int) from rfl, tdivN]
  have fin : ∀ (x : Nat) (H2 : Hp), a ≤ x → x < b → Mod [q] H1 H2 → (∃ N, SwQ H2 q N) → slices_choosePivotOrdered_uint32.k1 K q (x : Nat) H2 := fun x H2 hx1 hx2 m2 ⟨N, n, r, _⟩ => by
    have le2 : Le H H2 := m2.le le1 (by simpa using hq)
    unfold slices_choosePivotOrdered_uint32.k1
    exact ldI_i r (bcd (fun _ => hK x 1 H2 hx1 hx2 le2) fun _ => bcd (fun _ => hK x 2 H2 hx1 hx2 le2) fun _ => hK x 0 H2 hx1 hx2 le2)
  have e1 : ((a : Nat) : Int) + (((b - a) / 4 : Nat) : Int) * 1 = ((a + (b - a) / 4 : Nat) : Int) := by omega
  have e2 : ((a : Nat) : Int) + (((b - a) / 4 : Nat) : Int) * 2 = ((a + (b - a) / 4 * 2 : Nat) : Int) := by omega
  have e3 : ((a : Nat) : Int) + (((b - a) / 4 : Nat) : Int) * 3 = ((a + (b - a) / 4 * 3 : Nat) : Int) := by omega
  refine ⟨by decide, chk (by omega) (chk (by omega) (chk (by omega) ⟨by decide, chk (by omega) (chk (by omega) (chk (by omega) ⟨by decide, chk (by omega) (chk (by omega) (chk (by omega) ?_))⟩))⟩))⟩
  rw [e1, e2, e3]
  refine bcd (fun h8 => bcd (fun h50 => ?_) fun h50 => ?_) fun h8 => fin _ _ (by omega) (by omega) Mod.refl ⟨0, q1⟩
  · refine slices_medianAdjacentOrdered_uint32.c h1 (by omega) (by omega) hl q1 (by omega) hqp fun x1 H2 hx1 q2 m2 => ?_
    have h2 := A1.mod h1 m2 hn
    refine slices_medianAdjacentOrdered_uint32.c h2 (by omega) (by omega) hl q2 (by omega) hqp fun x2 H3 hx2 q3 m3 => ?_
    have h3 := A1.mod h2 m3 hn
    refine slices_medianAdjacentOrdered_uint32.c h3 (by omega) (by omega) hl q3 (by omega) hqp fun x3 H4 hx3 q4 m4 => ?_
    have h4 := A1.mod h3 m4 hn
    refine slices_medianOrdered_uint32.c h4 (by omega) (by omega) (by omega) q4 (by omega) hqp fun x4 H5 hx4 q5 m5 => ?_
    exact fin x4 H5 (by omega) (by omega) (((m2.trans m3).trans m4).trans m5) ⟨_, q5⟩
  · refine slices_medianOrdered_uint32.c h1 (by omega) (by omega) (by omega) q1 (by omega) hqp fun x1 H2 hx1 q2 m2 => ?_
    exact fin x1 H2 (by omega) (by omega) m2 ⟨_, q2⟩
end
section
variable {H : Hp} {p : Option Addr} {l cc : Nat} {d : Array Int}
theorem slices_partitionOrdered_uint32.c {a b pv : Nat} {K : Int → Bool → Hp → Prop} (h : A1 fU H p l d) (hp1 : a ≤ pv) (hp2 : pv < b) (hb : b ≤ d.size) (hl : l ≤ 1000000000)
    (hK : ∀ H', A1 fU H' p l (Sort.partition Sort.ltInt d a b pv).2.2 → Mod (blkL p) H H' → K ((Sort.partition Sort.ltInt d a b pv).1 : Nat) (Sort.partition Sort.ltInt d a b pv).2.1 H') : slices_partitionOrdered_uint32.C p l cc (a : Nat) (b : Nat) (pv : Nat) H K := by
  apply slices_partitionOrdered_uint32.of
  have hl0 := h.1
  refine rdU h pv rfl (by omega) (rdU h a rfl (by omega) (swU h (i := a) (j := pv) (by omega) (by omega) rfl rfl fun H1 h1 m1 => chk (by omega) (chk (by omega) ?_)))
  obtain ⟨d1, hd1⟩ : ∃ d1, d1 = Sort.swp d a pv := ⟨_, rfl⟩
  rw [← hd1] at h1
  have s1 : d1.size = d.size := by rw [hd1, Sort.swp_size]
  have hres : Sort.partition Sort.ltInt d a b pv = (if Sort.scanUp (fun x => Sort.ltInt x d1[a]!) d1 (b - 1) (a + 1) > Sort.scanDown (fun x => !Sort.ltInt x d1[a]!) d1 (Sort.scanUp (fun x => Sort.ltInt x d1[a]!) d1 (b - 1) (a + 1)) (b - 1) then (Sort.scanDown (fun x => !Sort.ltInt x d1[a]!) d1 (Sort.scanUp (fun x => Sort.ltInt x d1[a]!) d1 (b - 1) (a + 1)) (b - 1), true, Sort.swp d1 (Sort.scanDown (fun x => !Sort.ltInt x d1[a]!) d1 (Sort.scanUp (fun x => Sort.ltInt x d1[a]!) d1 (b - 1) (a + 1)) (b - 1)) a) else
      ((Sort.partLoop Sort.ltInt a (Sort.scanUp (fun x => Sort.ltInt x d1[a]!) d1 (b - 1) (a + 1) + 1) (Sort.scanDown (fun x => !Sort.ltInt x d1[a]!) d1 (Sort.scanUp (fun x => Sort.ltInt x d1[a]!) d1 (b - 1) (a + 1)) (b - 1) - 1) (Sort.swp d1 (Sort.scanUp (fun x => Sort.ltInt x d1[a]!) d1 (b - 1) (a + 1)) (Sort.scanDown (fun x => !Sort.ltInt x d1[a]!) d1 (Sort.scanUp (fun x => Sort.ltInt x d1[a]!) d1 (b - 1) (a + 1)) (b - 1)))).1, false, Sort.swp (Sort.partLoop Sort.ltInt a (Sort.scanUp (fun x => Sort.ltInt x d1[a]!) d1 (b - 1) (a + 1) + 1) (Sort.scanDown (fun x => !Sort.ltInt x d1[a]!) d1 (Sort.scanUp (fun x => Sort.ltInt x d1[a]!) d1 (b - 1) (a + 1)) (b - 1) - 1) (Sort.swp d1 (Sort.scanUp (fun x => Sort.ltInt x d1[a]!) d1 (b - 1) (a + 1)) (Sort.scanDown (fun x => !Sort.ltInt x d1[a]!) d1 (Sort.scanUp (fun x => Sort.ltInt x d1[a]!) d1 (b - 1) (a + 1)) (b - 1)))).2 (Sort.partLoop Sort.ltInt a (Sort.scanUp (fun x => Sort.ltInt x d1[a]!) d1 (b - 1) (a + 1) + 1) (Sort.scanDown (fun x => !Sort.ltInt x d1[a]!) d1 (Sort.scanUp (fun x => Sort.ltInt x d1[a]!) d1 (b - 1) (a + 1)) (b - 1) - 1) (Sort.swp d1 (Sort.scanUp (fun x => Sort.ltInt x d1[a]!) d1 (b - 1) (a + 1)) (Sort.scanDown (fun x => !Sort.ltInt x d1[a]!) d1 (Sort.scanUp (fun x => Sort.ltInt x d1[a]!) d1 (b - 1) (a + 1)) (b - 1)))).1 a)) := by
    subst hd1; rfl
  generalize Sort.partition Sort.ltInt d a b pv = PR at *
  have g0 := Sort.scanUp_ge (fun x => Sort.ltInt x d1[a]!) d1 (b - 1) (a + 1)
  obtain ⟨i0, hi0⟩ : ∃ i0, i0 = Sort.scanUp (fun x => Sort.ltInt x d1[a]!) d1 (b - 1) (a + 1) := ⟨_, rfl⟩
  rw [← hi0] at hres g0
  obtain ⟨j0, hj0⟩ : ∃ j0, j0 = Sort.scanDown (fun x => !Sort.ltInt x d1[a]!) d1 i0 (b - 1) := ⟨_, rfl⟩
  rw [← hj0] at hres
  -- behind the first two loops
  have k2 : ∀ Hy, Hy = H1 → i0 ≤ j0 + 1 → j0 < b → a ≤ j0 → slices_partitionOrdered_uint32.k2 K (a : Nat) l p (i0 : Nat) (j0 : Nat) Hy := by
    rintro Hy rfl q1 q2 q3
    unfold slices_partitionOrdered_uint32.k2
    refine bcd (fun hlt => ?_) fun hlt => ?_
    · refine rdU h1 a rfl (by omega) (rdU h1 j0 rfl (by omega) (swU h1 (i := j0) (j := a) (by omega) (by omega) rfl rfl fun H2 h2 m2 => ?_))
      rw [if_pos (by omega)] at hres
      rw [hres] at hK
      exact hK H2 h2 (m1.trans m2)
    · rw [if_neg (by omega)] at hres
      refine rdU h1 j0 rfl (by omega) (rdU h1 i0 rfl (by omega) (swU h1 (i := i0) (j := j0) (by omega) (by omega) rfl rfl fun H2 h2 m2 => chk (by omega) (chk (by omega) ?_)))
      generalize hR : Sort.partLoop Sort.ltInt a (i0 + 1) (j0 - 1) (Sort.swp d1 i0 j0) = R at hres
      refine ⟨fun i j Hx => ∃ (i' j' : Nat) (d2 : Array Int), i = (i' : Nat) ∧ j = (j' : Nat) ∧ a + 1 ≤ i' ∧ i' ≤ b + 1 ∧ a ≤ j' ∧ j' < b ∧ d2.size = d.size ∧ A1 fU Hx p l d2 ∧ Mod (blkL p) H Hx ∧ Sort.partLoop Sort.ltInt a i' j' d2 = R, fun i j _ => (j + 2 - i).toNat, ⟨i0 + 1, j0 - 1, _, by omega, by omega, by omega, by omega, by omega, by omega, by rw [Sort.swp_size]; exact s1, h2, m1.trans m2, hR⟩, ?_⟩
      rintro i j Hx ⟨i, j, d2, rfl, rfl, w1, w2, w3, w4, s2, h2x, m2x, eR⟩
      rw [Sort.partLoop_eq] at eR
      have gi := Sort.scanUp_ge (fun x => Sort.ltInt x d2[a]!) d2 j i
      obtain ⟨i1, hi1⟩ : ∃ i1, i1 = Sort.scanUp (fun x => Sort.ltInt x d2[a]!) d2 j i := ⟨_, rfl⟩
      rw [← hi1] at eR gi
      obtain ⟨j1, hj1⟩ : ∃ j1, j1 = Sort.scanDown (fun x => !Sort.ltInt x d2[a]!) d2 i1 j := ⟨_, rfl⟩
      have gj := Sort.scanDown_le (fun x => !Sort.ltInt x d2[a]!) d2 i1 j
      rw [← hj1] at eR gj
      have k4 : ∀ Hz, Hz = Hx → i1 ≤ b + 1 → a ≤ j1 → slices_partitionOrdered_uint32.k4 Hx (fun i j Hx => ∃ (i' j' : Nat) (d2 : Array Int), i = (i' : Nat) ∧ j = (j' : Nat) ∧ a + 1 ≤ i' ∧ i' ≤ b + 1 ∧ a ≤ j' ∧ j' < b ∧ d2.size = d.size ∧ A1 fU Hx p l d2 ∧ Mod (blkL p) H Hx ∧ Sort.partLoop Sort.ltInt a i' j' d2 = R) K (a : Nat) l p (i : Nat) (i1 : Nat) (j : Nat) (fun i j _ => (j + 2 - i).toNat) (j1 : Nat) Hz := by
        rintro Hz rfl v1 v2
        unfold slices_partitionOrdered_uint32.k4 slices_partitionOrdered_uint32.k5
        refine bcd (fun hlt => ?_) fun hlt => ?_
        · rw [if_pos (by omega)] at eR
          refine rdU h2x a rfl (by omega) (rdU h2x j1 rfl (by omega) (swU h2x (i := j1) (j := a) (by omega) (by omega) rfl rfl fun H3 h3 m3 => ?_))
          rw [hres, ← eR] at hK
          exact hK H3 h3 (m2x.trans m3)
        · rw [if_neg (by omega)] at eR
          exact rdU h2x j1 rfl (by omega) (rdU h2x i1 rfl (by omega) (swU h2x (i := i1) (j := j1) (by omega) (by omega) rfl rfl fun H3 h3 m3 => chk (by omega) (chk (by omega) ⟨⟨i1 + 1, j1 - 1, _, by omega, by omega, by omega, by omega, by omega, by omega, by rw [Sort.swp_size]; exact s2, h3, m2x.trans m3, eR⟩, by first | omega | (dsimp only; omega)⟩)))
      have k3 : ∀ Hz, Hz = Hx → i1 ≤ b + 1 → slices_partitionOrdered_uint32.k3 Hx (fun i j Hx => ∃ (i' j' : Nat) (d2 : Array Int), i = (i' : Nat) ∧ j = (j' : Nat) ∧ a + 1 ≤ i' ∧ i' ≤ b + 1 ∧ a ≤ j' ∧ j' < b ∧ d2.size = d.size ∧ A1 fU Hx p l d2 ∧ Mod (blkL p) H Hx ∧ Sort.partLoop Sort.ltInt a i' j' d2 = R) K (a : Nat) l p (i : Nat) (j : Nat) (fun i j _ => (j + 2 - i).toNat) (i1 : Nat) Hz := by
        rintro Hz rfl v1
        unfold slices_partitionOrdered_uint32.k3
        refine ⟨fun t Hw => ∃ t' : Nat, t = (t' : Nat) ∧ a ≤ t' ∧ t' < b ∧ Hw = Hz ∧ Sort.scanDown (fun x => !Sort.ltInt x d2[a]!) d2 i1 t' = j1, fun t _ => t.toNat, ⟨j, rfl, w3, w4, rfl, hj1.symm⟩, ?_⟩
        rintro t Hw ⟨t, rfl, u1, u2, rfl, u3⟩
        refine bcd (fun hle => ?_) fun hle => ?_
        · obtain ⟨w, rfl⟩ : ∃ w, t = w + 1 := ⟨t - 1, by omega⟩
          refine rdU h2x (w + 1) rfl (by omega) (rdU h2x a rfl (by omega) (cmp_Less_uint32.c ?_))
          refine bcn (fun hc => ?_) fun hc => ?_
          · refine chk (by omega) ⟨⟨w, by omega, by omega, by omega, by trivial, ?_⟩, by first | omega | (dsimp only; omega)⟩
            rw [← u3]; conv => rhs; rw [Sort.scanDown, if_pos (by rw [hc]; simp; omega)]
          · have : j1 = w + 1 := by rw [← u3, Sort.scanDown, if_neg (by rw [hc]; simp)]
            rw [← this]; exact k4 _ rfl v1 (by omega)
        · have : j1 = t := by
            rw [← u3]
            cases t with
            | zero => rfl
            | succ t => rw [Sort.scanDown, if_neg (by simp; omega)]
          rw [← this]; exact k4 _ rfl v1 (by omega)
      refine ⟨fun t Hw => ∃ t' : Nat, t = (t' : Nat) ∧ a + 1 ≤ t' ∧ t' ≤ b + 1 ∧ Hw = Hx ∧ Sort.scanUp (fun x => Sort.ltInt x d2[a]!) d2 j t' = i1, fun t _ => ((b : Int) + 1 - t).toNat, ⟨i, rfl, w1, w2, rfl, hi1.symm⟩, ?_⟩
      rintro t Hw ⟨t, rfl, u1, u2, rfl, u3⟩
      refine bcd (fun hle => ?_) fun hle => ?_
      · refine rdU h2x t rfl (by omega) (rdU h2x a rfl (by omega) (cmp_Less_uint32.c ?_))
        refine bc_i (fun hc => ?_) fun hc => ?_
        · refine chk (by omega) ⟨⟨t + 1, by omega, by omega, by omega, by trivial, ?_⟩, by first | omega | (dsimp only; omega)⟩
          rw [← u3]; conv => rhs; rw [Sort.scanUp, if_pos (by rw [hc]; simp; omega)]
        · have : i1 = t := by rw [← u3, Sort.scanUp, if_neg (by rw [hc]; simp)]
          rw [← this]; exact k3 _ rfl (by omega)
      · have : i1 = t := by rw [← u3, Sort.scanUp, if_neg (by simp; omega)]
        rw [← this]; exact k3 _ rfl (by omega)
  have k1 : ∀ Hy, Hy = H1 → i0 ≤ b → slices_partitionOrdered_uint32.k1 K (a : Nat) l p ((b : Nat) - 1 : Int) (i0 : Nat) Hy := by
    rintro Hy rfl q1
    unfold slices_partitionOrdered_uint32.k1
    refine ⟨fun t Hw => ∃ t' : Nat, t = (t' : Nat) ∧ a ≤ t' ∧ t' < b ∧ i0 ≤ t' + 1 ∧ Hw = Hy ∧ Sort.scanDown (fun x => !Sort.ltInt x d1[a]!) d1 i0 t' = j0, fun t _ => t.toNat, ⟨b - 1, by omega, by omega, by omega, by omega, rfl, hj0.symm⟩, ?_⟩
    rintro t Hw ⟨t, rfl, u1, u2, u4, rfl, u3⟩
    refine bcd (fun hle => ?_) fun hle => ?_
    · obtain ⟨w, rfl⟩ : ∃ w, t = w + 1 := ⟨t - 1, by omega⟩
      refine rdU h1 (w + 1) rfl (by omega) (rdU h1 a rfl (by omega) (cmp_Less_uint32.c ?_))
      refine bcn (fun hc => ?_) fun hc => ?_
      · refine chk (by omega) ⟨⟨w, by omega, by omega, by omega, by omega, by trivial, ?_⟩, by first | omega | (dsimp only; omega)⟩
        rw [← u3]; conv => rhs; rw [Sort.scanDown, if_pos (by rw [hc]; simp; omega)]
      · have : j0 = w + 1 := by rw [← u3, Sort.scanDown, if_neg (by rw [hc]; simp)]
        rw [← this]; exact k2 _ rfl (by omega) (by omega) (by omega)
    · have : j0 = t := by
        rw [← u3]
        cases t with
        | zero => rfl
        | succ t => rw [Sort.scanDown, if_neg (by simp; omega)]
      rw [← this]; exact k2 _ rfl (by omega) (by omega) (by omega)
  refine ⟨fun t Hw => ∃ t' : Nat, t = (t' : Nat) ∧ a + 1 ≤ t' ∧ t' ≤ b ∧ Hw = H1 ∧ Sort.scanUp (fun x => Sort.ltInt x d1[a]!) d1 (b - 1) t' = i0, fun t _ => ((b : Int) + 1 - t).toNat, ⟨a + 1, by omega, by omega, by omega, rfl, hi0.symm⟩, ?_⟩
  rintro t Hw ⟨t, rfl, u1, u2, rfl, u3⟩
  refine bcd (fun hle => ?_) fun hle => ?_
  · refine rdU h1 t rfl (by omega) (rdU h1 a rfl (by omega) (cmp_Less_uint32.c ?_))
    refine bc_i (fun hc => ?_) fun hc => ?_
    · refine chk (by omega) ⟨⟨t + 1, by omega, by omega, by omega, by trivial, ?_⟩, by first | omega | (dsimp only; omega)⟩
      rw [← u3]; conv => rhs; rw [Sort.scanUp, if_pos (by rw [hc]; simp; omega)]
    · have : i0 = t := by rw [← u3, Sort.scanUp, if_neg (by rw [hc]; simp)]
      rw [← this]; exact k1 _ rfl (by omega)
  · have : i0 = t := by rw [← u3, Sort.scanUp, if_neg (by simp; omega)]
    rw [← this]; exact k1 _ rfl (by omega)
theorem slices_partitionEqualOrdered_uint32.c {a b pv : Nat} {K : Int → Hp → Prop} (h : A1 fU H p l d) (hp1 : a ≤ pv) (hp2 : pv < b) (hb : b ≤ d.size) (hl : l ≤ 1000000000)
    (hK : ∀ H', A1 fU H' p l (Sort.partitionEqual Sort.ltInt d a b pv).2 → Mod (blkL p) H H' → K ((Sort.partitionEqual Sort.ltInt d a b pv).1 : Nat) H') : slices_partitionEqualOrdered_uint32.C p l cc (a : Nat) (b : Nat) (pv : Nat) H K := by
  apply slices_partitionEqualOrdered_uint32.of
  have hl0 := h.1
  refine rdU h pv rfl (by omega) (rdU h a rfl (by omega) (swU h (i := a) (j := pv) (by omega) (by omega) rfl rfl fun H1 h1 m1 => chk (by omega) (chk (by omega) ?_)))
  have hres : Sort.partitionEqual Sort.ltInt d a b pv = Sort.partEqLoop Sort.ltInt a (a + 1) (b - 1) (Sort.swp d a pv) := rfl
  generalize Sort.partitionEqual Sort.ltInt d a b pv = R at *
  refine ⟨fun i j Hx => ∃ (i' j' : Nat) (d2 : Array Int), i = (i' : Nat) ∧ j = (j' : Nat) ∧ a + 1 ≤ i' ∧ i' ≤ b + 1 ∧ a ≤ j' ∧ j' < b ∧ d2.size = d.size ∧ A1 fU Hx p l d2 ∧ Mod (blkL p) H Hx ∧ Sort.partEqLoop Sort.ltInt a i' j' d2 = R, fun i j _ => (j + 2 - i).toNat, ⟨a + 1, b - 1, _, by omega, by omega, by omega, by omega, by omega, by omega, by rw [Sort.swp_size], h1, m1, hres.symm⟩, ?_⟩
  rintro i j Hx ⟨i, j, d2, rfl, rfl, w1, w2, w3, w4, s2, h2x, m2x, eR⟩
  rw [Sort.partEqLoop_eq] at eR
  have gi := Sort.scanUp_ge (fun x => !Sort.ltInt d2[a]! x) d2 j i
  obtain ⟨i1, hi1⟩ : ∃ i1, i1 = Sort.scanUp (fun x => !Sort.ltInt d2[a]! x) d2 j i := ⟨_, rfl⟩
  rw [← hi1] at eR gi
  obtain ⟨j1, hj1⟩ : ∃ j1, j1 = Sort.scanDown (fun x => Sort.ltInt d2[a]! x) d2 i1 j := ⟨_, rfl⟩
  have gj := Sort.scanDown_le (fun x => Sort.ltInt d2[a]! x) d2 i1 j
  rw [← hj1] at eR gj
  have k2 : ∀ Hz, Hz = Hx → i1 ≤ b + 1 → a ≤ j1 → slices_partitionEqualOrdered_uint32.k2 Hx (fun i j Hx => ∃ (i' j' : Nat) (d2 : Array Int), i = (i' : Nat) ∧ j = (j' : Nat) ∧ a + 1 ≤ i' ∧ i' ≤ b + 1 ∧ a ≤ j' ∧ j' < b ∧ d2.size = d.size ∧ A1 fU Hx p l d2 ∧ Mod (blkL p) H Hx ∧ Sort.partEqLoop Sort.ltInt a i' j' d2 = R) K l p (i : Nat) (i1 : Nat) (j : Nat) (fun i j _ => (j + 2 - i).toNat) (j1 : Nat) Hz := by
    rintro Hz rfl v1 v2
    unfold slices_partitionEqualOrdered_uint32.k2
    refine bcd (fun hlt => ?_) fun hlt => ?_
    · rw [if_pos (by omega)] at eR
      rw [← eR] at hK
      exact hK _ h2x m2x
    · rw [if_neg (by omega)] at eR
      exact rdU h2x j1 rfl (by omega) (rdU h2x i1 rfl (by omega) (swU h2x (i := i1) (j := j1) (by omega) (by omega) rfl rfl fun H3 h3 m3 => chk (by omega) (chk (by omega) ⟨⟨i1 + 1, j1 - 1, _, by omega, by omega, by omega, by omega, by omega, by omega, by rw [Sort.swp_size]; exact s2, h3, m2x.trans m3, eR⟩, by first | omega | (dsimp only; omega)⟩)))
  have k1 : ∀ Hz, Hz = Hx → i1 ≤ b + 1 → slices_partitionEqualOrdered_uint32.k1 Hx (fun i j Hx => ∃ (i' j' : Nat) (d2 : Array Int), i = (i' : Nat) ∧ j = (j' : Nat) ∧ a + 1 ≤ i' ∧ i' ≤ b + 1 ∧ a ≤ j' ∧ j' < b ∧ d2.size = d.size ∧ A1 fU Hx p l d2 ∧ Mod (blkL p) H Hx ∧ Sort.partEqLoop Sort.ltInt a i' j' d2 = R) K (a : Nat) l p (i : Nat) (j : Nat) (fun i j _ => (j + 2 - i).toNat) (i1 : Nat) Hz := by
    rintro Hz rfl v1
    unfold slices_partitionEqualOrdered_uint32.k1
    refine ⟨fun t Hw => ∃ t' : Nat, t = (t' : Nat) ∧ a ≤ t' ∧ t' < b ∧ Hw = Hz ∧ Sort.scanDown (fun x => Sort.ltInt d2[a]! x) d2 i1 t' = j1, fun t _ => t.toNat, ⟨j, rfl, w3, w4, rfl, hj1.symm⟩, ?_⟩
    rintro t Hw ⟨t, rfl, u1, u2, rfl, u3⟩
    refine bcd (fun hle => ?_) fun hle => ?_
    · obtain ⟨w, rfl⟩ : ∃ w, t = w + 1 := ⟨t - 1, by omega⟩
      refine rdU h2x a rfl (by omega) (rdU h2x (w + 1) rfl (by omega) (cmp_Less_uint32.c ?_))
      refine bc_i (fun hc => ?_) fun hc => ?_
      · refine chk (by omega) ⟨⟨w, by omega, by omega, by omega, by trivial, ?_⟩, by first | omega | (dsimp only; omega)⟩
        rw [← u3]; conv => rhs; rw [Sort.scanDown, if_pos (by rw [hc]; simp; omega)]
      · have : j1 = w + 1 := by rw [← u3, Sort.scanDown, if_neg (by rw [hc]; simp)]
        rw [← this]; exact k2 _ rfl v1 (by omega)
    · have : j1 = t := by
        rw [← u3]
        cases t with
        | zero => rfl
        | succ t => rw [Sort.scanDown, if_neg (by simp; omega)]
      rw [← this]; exact k2 _ rfl v1 (by omega)
  refine ⟨fun t Hw => ∃ t' : Nat, t = (t' : Nat) ∧ a + 1 ≤ t' ∧ t' ≤ b + 1 ∧ Hw = Hx ∧ Sort.scanUp (fun x => !Sort.ltInt d2[a]! x) d2 j t' = i1, fun t _ => ((b : Int) + 1 - t).toNat, ⟨i, rfl, w1, w2, rfl, hi1.symm⟩, ?_⟩
  rintro t Hw ⟨t, rfl, u1, u2, rfl, u3⟩
  refine bcd (fun hle => ?_) fun hle => ?_
  · refine rdU h2x a rfl (by omega) (rdU h2x t rfl (by omega) (cmp_Less_uint32.c ?_))
    refine bcn (fun hc => ?_) fun hc => ?_
    · refine chk (by omega) ⟨⟨t + 1, by omega, by omega, by omega, by trivial, ?_⟩, by first | omega | (dsimp only; omega)⟩
      rw [← u3]; conv => rhs; rw [Sort.scanUp, if_pos (by rw [hc]; simp; omega)]
    · have : i1 = t := by rw [← u3, Sort.scanUp, if_neg (by rw [hc]; simp)]
      rw [← this]; exact k1 _ rfl (by omega)
  · have : i1 = t := by rw [← u3, Sort.scanUp, if_neg (by simp; omega)]
    rw [← this]; exact k1 _ rfl (by omega)
theorem slices_partialInsertionSortOrdered_uint32.c {a b : Nat} {K : Bool → Hp → Prop} (h : A1 fU H p l d) (hab : a < b) (hb : b ≤ d.size) (hl : l ≤ 1000000000)
    (hK : ∀ H', A1 fU H' p l (Sort.partialInsertionSort Sort.ltInt d a b).1 → Mod (blkL p) H H' → K (Sort.partialInsertionSort Sort.ltInt d a b).2 H') : slices_partialInsertionSortOrdered_uint32.C p l cc (a : Nat) (b : Nat) H K := by
  apply slices_partialInsertionSortOrdered_uint32.of
  have hl0 := h.1
  have hres : Sort.partialInsertionSort Sort.ltInt d a b = Sort.partialIns Sort.ltInt a b 5 (a + 1) d := rfl
  generalize Sort.partialInsertionSort Sort.ltInt d a b = R at *
  refine chk (by omega) ?_
  refine ⟨fun i j Hx => ∃ (i' j' : Nat) (d1 : Array Int), i = (i' : Nat) ∧ j = (j' : Nat) ∧ a + 1 ≤ i' ∧ i' ≤ b ∧ j' ≤ 5 ∧ d1.size = d.size ∧ A1 fU Hx p l d1 ∧ Mod (blkL p) H Hx ∧ Sort.partialIns Sort.ltInt a b (5 - j') i' d1 = R, fun _ j _ => (5 - j).toNat, ⟨a + 1, 0, d, by omega, rfl, by omega, by omega, by omega, rfl, h, Mod.refl, hres.symm⟩, ?_⟩
  rintro i j Hx ⟨i, j, d1, rfl, rfl, g1, g2, g3, gs, h1, m1, e1⟩
  refine bcd (fun hlt => ?_) fun hlt => ?_
  · obtain ⟨s, hs⟩ : ∃ s, 5 - j = s + 1 := ⟨5 - j - 1, by omega⟩
    rw [hs, Sort.partialIns_succ] at e1
    obtain ⟨i1, hi1⟩ : ∃ i1, i1 = Sort.scanSorted Sort.ltInt d1 b i := ⟨_, rfl⟩
    rw [← hi1] at e1
    have k1 : ∀ Hy, Hy = Hx → a + 1 ≤ i1 → i1 ≤ b → slices_partialInsertionSortOrdered_uint32.k1 Hx (fun i j Hx => ∃ (i' j' : Nat) (d1 : Array Int), i = (i' : Nat) ∧ j = (j' : Nat) ∧ a + 1 ≤ i' ∧ i' ≤ b ∧ j' ≤ 5 ∧ d1.size = d.size ∧ A1 fU Hx p l d1 ∧ Mod (blkL p) H Hx ∧ Sort.partialIns Sort.ltInt a b (5 - j') i' d1 = R) K (a : Nat) (b : Nat) l p (i : Nat) (j : Nat) (fun _ j _ => (5 - j).toNat) (i1 : Nat) Hy := by
      rintro Hy rfl q1 q2
      unfold slices_partialInsertionSortOrdered_uint32.k1
      refine bcd (fun he => ?_) fun he => ?_
      · rw [if_pos (by omega)] at e1
        rw [← e1] at hK
        exact hK _ h1 m1
      rw [if_neg (by omega)] at e1
      refine chk (by omega) (bcd (fun h50 => ?_) fun h50 => ?_)
      · rw [if_pos (by omega)] at e1
        rw [← e1] at hK
        exact hK _ h1 m1
      rw [if_neg (by omega)] at e1
      refine chk (by omega) (chk (by omega) (rdU h1 (i1 - 1) (by omega) (by omega) (rdU h1 i1 rfl (by omega) (swU h1 (i := i1) (j := i1 - 1) (by omega) (by omega) rfl (by omega) fun H2 h2 m2 => chk (by omega) ?_))))
      generalize hd2 : Sort.swp d1 i1 (i1 - 1) = d2 at *
      have s2 : d2.size = d.size := by rw [← hd2, Sort.swp_size]; exact gs
      -- behind the shift down
      have k2 : ∀ (Hz : Hp) (d3 : Array Int), d3 = Sort.fixDown Sort.ltInt a i1 d2 → d3.size = d.size → A1 fU Hz p l d3 → Mod (blkL p) H Hz → slices_partialInsertionSortOrdered_uint32.k2 Hy (fun i j Hx => ∃ (i' j' : Nat) (d1 : Array Int), i = (i' : Nat) ∧ j = (j' : Nat) ∧ a + 1 ≤ i' ∧ i' ≤ b ∧ j' ≤ 5 ∧ d1.size = d.size ∧ A1 fU Hx p l d1 ∧ Mod (blkL p) H Hx ∧ Sort.partialIns Sort.ltInt a b (5 - j') i' d1 = R) (b : Nat) l p (i1 : Nat) (i : Nat) (j : Nat) (fun _ j _ => (5 - j).toNat) Hz := by
        intro Hz d3 hd3 s3 h3 m3
        rw [← hd3] at e1
        have fin : ∀ (Hw : Hp) (d4 : Array Int), d4 = Sort.fixUp Sort.ltInt b i1 d3 → d4.size = d.size → A1 fU Hw p l d4 → Mod (blkL p) H Hw → CHK .i64 (((j : Nat) : Int) + (1 : Int)) fun x => (∃ (i' j' : Nat) (d1 : Array Int), ((i1 : Nat) : Int) = (i' : Nat) ∧ x = (j' : Nat) ∧ a + 1 ≤ i' ∧ i' ≤ b ∧ j' ≤ 5 ∧ d1.size = d.size ∧ A1 fU Hw p l d1 ∧ Mod (blkL p) H Hw ∧ Sort.partialIns Sort.ltInt a b (5 - j') i' d1 = R) ∧ (5 - x).toNat < (5 - ((j : Nat) : Int)).toNat := fun Hw d4 hd4 s4 h4 m4 =>
          chk (by omega) ⟨⟨i1, j + 1, d4, rfl, by omega, q1, q2, by omega, s4, h4, m4, by rw [show 5 - (j + 1) = s by omega, hd4]; exact e1⟩, by omega⟩
        unfold slices_partialInsertionSortOrdered_uint32.k2
        refine chk (by omega) (bcd (fun hge => ?_) fun hge => fin Hz d3 (by unfold Sort.fixUp; rw [if_neg (by omega)]) s3 h3 m3)
        have hfu : Sort.fixUp Sort.ltInt b i1 d3 = Sort.shiftUp Sort.ltInt b (i1 + 1) d3 := by unfold Sort.fixUp; rw [if_pos (by omega)]
        refine chk (by omega) ?_
        refine ⟨fun t Hw => ∃ (t' : Nat) (d4 : Array Int), t = (t' : Nat) ∧ i1 + 1 ≤ t' ∧ t' ≤ b ∧ d4.size = d.size ∧ A1 fU Hw p l d4 ∧ Mod (blkL p) H Hw ∧ Sort.shiftUp Sort.ltInt b t' d4 = Sort.fixUp Sort.ltInt b i1 d3, fun t _ => ((b : Int) - t).toNat, ⟨i1 + 1, d3, by omega, by omega, by omega, s3, h3, m3, hfu.symm⟩, ?_⟩
        rintro t Hw ⟨t, d4, rfl, u1, u2, s4, h4, m4, e4⟩
        refine bcd (fun hlt' => ?_) fun hlt' => fin Hw d4 (by rw [← e4, Sort.shiftUp, if_neg (by omega)]) s4 h4 m4
        rw [Sort.shiftUp, if_pos (by omega)] at e4
        refine rdU h4 t rfl (by omega) (chk (by omega) (rdU h4 (t - 1) (by omega) (by omega) (cmp_Less_uint32.c ?_)))
        refine bcn (fun hc => ?_) fun hc => ?_
        · rw [if_pos (by rw [hc]; rfl)] at e4
          exact fin Hw d4 e4 s4 h4 m4
        · rw [if_neg (by rw [hc]; decide)] at e4
          exact chk (by omega) (chk (by omega) (rdU h4 (t - 1) (by omega) (by omega) (rdU h4 t rfl (by omega) (swU h4 (i := t) (j := t - 1) (by omega) (by omega) rfl (by omega) fun H5 h5 m5 => chk (by omega) ⟨⟨t + 1, _, by omega, by omega, by omega, by rw [Sort.swp_size]; exact s4, h5, m4.trans m5, e4⟩, by first | omega | (dsimp only; omega)⟩))))
      refine bcd (fun hge => ?_) fun hge => k2 H2 d2 (by unfold Sort.fixDown; rw [if_neg (by omega)]) s2 h2 (m1.trans m2)
      have hfd : Sort.fixDown Sort.ltInt a i1 d2 = Sort.shiftDown Sort.ltInt (i1 - 1) d2 := by unfold Sort.fixDown; rw [if_pos (by omega)]
      refine chk (by omega) ?_
      refine ⟨fun t Hw => ∃ (t' : Nat) (d3 : Array Int), t = (t' : Nat) ∧ t' ≤ i1 - 1 ∧ d3.size = d.size ∧ A1 fU Hw p l d3 ∧ Mod (blkL p) H Hw ∧ Sort.shiftDown Sort.ltInt t' d3 = Sort.fixDown Sort.ltInt a i1 d2, fun t _ => t.toNat, ⟨i1 - 1, d2, by omega, Nat.le_refl _, s2, h2, m1.trans m2, hfd.symm⟩, ?_⟩
      rintro t Hw ⟨t, d3, rfl, u1, s3, h3, m3, e3⟩
      refine bcd (fun hge' => ?_) fun hge' => ?_
      · obtain ⟨w, rfl⟩ : ∃ w, t = w + 1 := ⟨t - 1, by omega⟩
        rw [Sort.shiftDown] at e3
        refine rdU h3 (w + 1) rfl (by omega) (chk (by omega) (rdU h3 w (by omega) (by omega) (cmp_Less_uint32.c ?_)))
        refine bcn (fun hc => ?_) fun hc => ?_
        · rw [if_pos (by rw [hc]; rfl)] at e3
          exact k2 Hw d3 e3 s3 h3 m3
        · rw [if_neg (by rw [hc]; decide)] at e3
          exact chk (by omega) (chk (by omega) (rdU h3 w (by omega) (by omega) (rdU h3 (w + 1) rfl (by omega) (swU h3 (i := w + 1) (j := w) (by omega) (by omega) rfl (by omega) fun H5 h5 m5 => chk (by omega) ⟨⟨w, _, by omega, by omega, by rw [Sort.swp_size]; exact s3, h5, m3.trans m5, e3⟩, by first | omega | (dsimp only; omega)⟩))))
      · have : t = 0 := by omega
        subst this
        exact k2 Hw d3 (by rw [← e3]; rfl) s3 h3 m3
    refine ⟨fun t Hw => ∃ t' : Nat, t = (t' : Nat) ∧ a + 1 ≤ t' ∧ t' ≤ b ∧ Hw = Hx ∧ Sort.scanSorted Sort.ltInt d1 b t' = i1, fun t _ => ((b : Int) - t).toNat, ⟨i, rfl, g1, g2, rfl, hi1.symm⟩, ?_⟩
    rintro t Hw ⟨t, rfl, u1, u2, rfl, u3⟩
    refine bcd (fun hle => ?_) fun hle => ?_
    · refine rdU h1 t rfl (by omega) (chk (by omega) (rdU h1 (t - 1) (by omega) (by omega) (cmp_Less_uint32.c ?_)))
      refine bcn (fun hc => ?_) fun hc => ?_
      · refine chk (by omega) ⟨⟨t + 1, by omega, by omega, by omega, by trivial, ?_⟩, by first | omega | (dsimp only; omega)⟩
        rw [← u3]; conv => rhs; rw [Sort.scanSorted, if_pos (by rw [hc]; simp; omega)]
      · have : i1 = t := by rw [← u3, Sort.scanSorted, if_neg (by rw [hc]; simp)]
        rw [← this]; exact k1 _ rfl (by omega) (by omega)
    · have : i1 = t := by rw [← u3, Sort.scanSorted, if_neg (by simp; omega)]
      rw [← this]; exact k1 _ rfl (by omega) (by omega)
  · have : j = 5 := by omega
    subst this
    have : (d1, false) = R := e1
    rw [← this] at hK
    exact hK _ h1 m1
theorem slices_breakPatternsOrdered_uint32.c {a b : Nat} {K : Hp → Prop} (h : A1 fU H p l d) (hab : a ≤ b) (hb : b ≤ d.size) (hl : l ≤ 1000000000)
    (hK : ∀ H' d', A1 fU H' p l d' → Mod (blkL p) H H' → Sort.PermIn a b d d' → K H') : slices_breakPatternsOrdered_uint32.C p l cc (a : Nat) (b : Nat) H K := by
  apply slices_breakPatternsOrdered_uint32.of
  have hl0 := h.1
  unfold slices_breakPatternsOrdered_uint32.F
  rw [show ((b : Nat) : Int) - ((a : Nat) : Int) = ((b - a : Nat) : Int) by omega]
  refine chk (by omega) (bcd (fun h8 => ?_) fun _ => hK H d h Mod.refl (Sort.permIn_refl d a b))
  rw [wrapU (b - a) (by omega)]
  intro q hq
  refine ST_upd rfl ?_
  have le1 : Le H (upd H q ([.int .u64 (0 : Int)].set 0 (.int .u64 ((b - a : Nat) : Int)))) := Le.upd hq
  have q1 : rd (upd H q ([.int .u64 (0 : Int)].set 0 (.int .u64 ((b - a : Nat) : Int)))) q 0 = some (.int .u64 ((b - a : Nat) : Int)) := by rw [rd_upd_self]; rfl
  have h1 := A1.le h le1
  have hqp : q ∉ blkL p := fun hx => A1.there h (by omega) hx hq
  have hn : ∀ b ∈ blkL p, b ∉ [q] := fun b hb hb' => by simp at hb'; subst hb'; exact hqp hb
  generalize upd H q ([.int .u64 (0 : Int)].set 0 (.int .u64 ((b - a : Nat) : Int))) = H1 at *
  refine slices_nextPowerOfTwo.c (by omega) ⟨by decide, ?_⟩
  have hpw := Sort.two_pow_bitsLen_le (n := b - a) (by omega)
  have hpos : 0 < 2 ^ Sort.bitsLen (b - a) := Nat.pow_pos (by decide)
  generalize 2 ^ Sort.bitsLen (b - a) = M at *
  rw [show (4 : Int) = ((4 : Nat) : Int) from rfl, tdivN]
  refine chk (by omega) (chk (by omega) (chk (by omega) (chk (by omega) ?_)))
  refine ⟨fun i Hx => ∃ (i' : Nat) (d1 : Array Int) (m : Int), i = (i' : Nat) ∧ a + (b - a) / 4 * 2 - 1 ≤ i' ∧ i' ≤ a + (b - a) / 4 * 2 + 2 ∧ d1.size = d.size ∧ A1 fU Hx p l d1 ∧ Mod (q :: blkL p) H Hx ∧ rd Hx q 0 = some (.int .u64 m) ∧ Sort.PermIn a b d d1, fun i _ => (((a + (b - a) / 4 * 2 + 3 : Nat) : Int) - i).toNat, ⟨a + (b - a) / 4 * 2 - 1, d, _, by omega, Nat.le_refl _, by omega, rfl, h1, le1.mod, q1, Sort.permIn_refl d a b⟩, ?_⟩
  rintro i Hx ⟨i, d1, m, rfl, g1, g2, gs, h1x, m1x, q1x, hpm⟩
  refine ⟨by decide, chk (by omega) (chk (by omega) (chk (by omega) (chk (by omega) (bcd (fun hle => ?_) fun hle => ?_))))⟩
  · refine slices_xorshift_Next.c q1x fun m2 H2 q2 mm => ?_
    have h2 := A1.mod h1x mm hn
    rw [show ((M : Nat) : Int) - 1 = ((M - 1 : Nat) : Int) by omega, wrapU (M - 1) (by omega)]
    obtain ⟨o, ho, hom⟩ := iand_bound m2 (M - 1) (by omega)
    rw [ho, wrapI o (by omega)]
    have m2x : Mod (q :: blkL p) H H2 := m1x.trans (mm.mono (by simp))
    have go : ∀ o' : Nat, o' < b - a → slices_breakPatternsOrdered_uint32.k1 Hx (fun i Hx => ∃ (i' : Nat) (d1 : Array Int) (m : Int), i = (i' : Nat) ∧ a + (b - a) / 4 * 2 - 1 ≤ i' ∧ i' ≤ a + (b - a) / 4 * 2 + 2 ∧ d1.size = d.size ∧ A1 fU Hx p l d1 ∧ Mod (q :: blkL p) H Hx ∧ rd Hx q 0 = some (.int .u64 m) ∧ Sort.PermIn a b d d1) (a : Nat) l p (i : Nat) (fun i _ => (((a + (b - a) / 4 * 2 + 3 : Nat) : Int) - i).toNat) (o' : Nat) H2 := by
      intro o' ho'
      unfold slices_breakPatternsOrdered_uint32.k1
      refine chk (by omega) (chk (by omega) (rdU h2 (a + o') (by omega) (by omega) (rdU h2 i rfl (by omega) (swU h2 (i := i) (j := a + o') (by omega) (by omega) rfl (by omega) fun H3 h3 m3 => chk (by omega) ⟨⟨i + 1, _, m2, by omega, by omega, by omega, by rw [Sort.swp_size]; exact gs, h3, m2x.trans (m3.mono fun x hx => List.mem_cons_of_mem _ hx), m3.rd hqp q2, ?_⟩, by first | omega | (dsimp only; omega)⟩))))
      exact Sort.permIn_trans _ _ _ a b hpm (Sort.swp_permIn d1 a b i (a + o') (by omega) (by omega) (by omega) (by omega) (by omega))
    refine bcd (fun hge => chk (by omega) ?_) fun hlt => go o (by omega)
    rw [show ((o : Nat) : Int) - ((b - a : Nat) : Int) = ((o - (b - a) : Nat) : Int) by omega]
    exact go _ (by omega)
  · exact hK Hx d1 h1x (fun b' hb' c' e => m1x b' (fun hx => by
      rcases List.mem_cons.1 hx with hx | hx
      · rw [hx, hq] at e; cases e
      · exact hb' hx) c' e) hpm
theorem slices_pdqsortOrdered_uint32.c : ∀ (n : Nat) {H : Hp} {d : Array Int} {a b : Nat} {lim : Int} {K : Hp → Prop}, b - a ≤ n → A1 fU H p l d → a ≤ b → b ≤ d.size → 0 ≤ lim → lim ≤ 1000 → Sort.Below Sort.ltInt a b d → l ≤ 1000000000 →
    (∀ H' d', A1 fU H' p l d' → Mod (blkL p) H H' → Sort.PermIn a b d d' → Sort.SortedIn Sort.ltInt a b d' → K H') → slices_pdqsortOrdered_uint32.C p l cc (a : Nat) (b : Nat) lim H K := by
  intro n
  induction n using Nat.strongRecOn with
  | _ n ih =>
  intro H d a0 b0 lim0 K hn h hab hb hl1 hl2 hB hl hK
  apply slices_pdqsortOrdered_uint32.of
  have hl0 := h.1
  refine ⟨fun a b lim _ _ Hx => ∃ (a' b' : Nat) (d1 : Array Int), a = (a' : Nat) ∧ b = (b' : Nat) ∧ a0 ≤ a' ∧ a' ≤ b' ∧ b' ≤ b0 ∧ 0 ≤ lim ∧ lim ≤ 1000 ∧ d1.size = d.size ∧ A1 fU Hx p l d1 ∧ Mod (blkL p) H Hx ∧ Sort.Below Sort.ltInt a' b' d1 ∧ ∀ R, Sort.PermIn a' b' d1 R → Sort.SortedIn Sort.ltInt a' b' R → Sort.PermIn a0 b0 d R ∧ Sort.SortedIn Sort.ltInt a0 b0 R, fun a b _ _ _ _ => (b - a).toNat,
    ⟨a0, b0, d, rfl, rfl, Nat.le_refl _, hab, Nat.le_refl _, hl1, hl2, rfl, h, Mod.refl, hB, fun R h1 h2 => ⟨h1, h2⟩⟩, ?_⟩
  rintro a b lim wb wp Hx ⟨a, b, d1, rfl, rfl, g1, g2, g3, g4, g5, gs, h1, m1, hB1, hR⟩
  have fin : ∀ (Hy : Hp) (d' : Array Int), A1 fU Hy p l d' → Mod (blkL p) H Hy → Sort.PermIn a b d1 d' → Sort.SortedIn Sort.ltInt a b d' → K Hy := fun Hy d' hA hM hP hS => hK Hy d' hA hM (hR d' hP hS).1 (hR d' hP hS).2
  refine chk (by omega) (bcd (fun h12 => slices_insertionSortOrdered_uint32.c h1 g2 (by omega) hl fun H2 d2 h2 m2 hP hS => fin H2 d2 h2 (m1.trans m2) hP hS) fun h12 => ?_)
  refine bcd (fun h0 => slices_heapSortOrdered_uint32.c h1 g2 (by omega) hl fun H2 d2 h2 m2 hP hS => fin H2 d2 h2 (m1.trans m2) hP hS) fun h0 => ?_
  have k1 : ∀ (lim' : Int) (H2 : Hp) (d2 : Array Int), 0 ≤ lim' → lim' ≤ 1000 → A1 fU H2 p l d2 → Mod (blkL p) H H2 → Sort.PermIn a b d1 d2 → slices_pdqsortOrdered_uint32.k1 Hx (fun a b lim _ _ Hx => ∃ (a' b' : Nat) (d1 : Array Int), a = (a' : Nat) ∧ b = (b' : Nat) ∧ a0 ≤ a' ∧ a' ≤ b' ∧ b' ≤ b0 ∧ 0 ≤ lim ∧ lim ≤ 1000 ∧ d1.size = d.size ∧ A1 fU Hx p l d1 ∧ Mod (blkL p) H Hx ∧ Sort.Below Sort.ltInt a' b' d1 ∧ ∀ R, Sort.PermIn a' b' d1 R → Sort.SortedIn Sort.ltInt a' b' R → Sort.PermIn a0 b0 d R ∧ Sort.SortedIn Sort.ltInt a0 b0 R) K (a : Nat) (b : Nat) cc l p lim (fun a b _ _ _ _ => (b - a).toNat) wb wp ((b : Nat) - (a : Nat) : Int) lim' H2 := by
    intro lim' H2 d2 q1 q2 h2 m2 hP2
    have s2 : d2.size = d.size := hP2.1.trans gs
    unfold slices_pdqsortOrdered_uint32.k1
    -- the pivot
    have k3 : ∀ (pv : Nat) (H4 : Hp) (d4 : Array Int), a ≤ pv → pv < b → A1 fU H4 p l d4 → Mod (blkL p) H H4 → Sort.PermIn a b d1 d4 → slices_pdqsortOrdered_uint32.k3 Hx (fun a b lim _ _ Hx => ∃ (a' b' : Nat) (d1 : Array Int), a = (a' : Nat) ∧ b = (b' : Nat) ∧ a0 ≤ a' ∧ a' ≤ b' ∧ b' ≤ b0 ∧ 0 ≤ lim ∧ lim ≤ 1000 ∧ d1.size = d.size ∧ A1 fU Hx p l d1 ∧ Mod (blkL p) H Hx ∧ Sort.Below Sort.ltInt a' b' d1 ∧ ∀ R, Sort.PermIn a' b' d1 R → Sort.SortedIn Sort.ltInt a' b' R → Sort.PermIn a0 b0 d R ∧ Sort.SortedIn Sort.ltInt a0 b0 R) (a : Nat) (b : Nat) cc l p lim' lim (fun a b _ _ _ _ => (b - a).toNat) (pv : Nat) wb wp ((b : Nat) - (a : Nat) : Int) H4 := by
      intro pv H4 d4 w1 w2 h4 m4 hP4
      have s4 : d4.size = d.size := hP4.1.trans gs
      have hB4 : Sort.Below Sort.ltInt a b d4 := Sort.Below.perm hB1 (by omega) hP4
      have toR : ∀ R, Sort.PermIn a b d4 R ∧ Sort.SortedIn Sort.ltInt a b R → Sort.PermIn a0 b0 d R ∧ Sort.SortedIn Sort.ltInt a0 b0 R := fun R hh => hR R (Sort.permIn_trans _ _ _ a b hP4 hh.1) hh.2
      unfold slices_pdqsortOrdered_uint32.k3
      have k4 : ∀ Hy, Hy = H4 → slices_pdqsortOrdered_uint32.k4 Hx (fun a b lim _ _ Hx => ∃ (a' b' : Nat) (d1 : Array Int), a = (a' : Nat) ∧ b = (b' : Nat) ∧ a0 ≤ a' ∧ a' ≤ b' ∧ b' ≤ b0 ∧ 0 ≤ lim ∧ lim ≤ 1000 ∧ d1.size = d.size ∧ A1 fU Hx p l d1 ∧ Mod (blkL p) H Hx ∧ Sort.Below Sort.ltInt a' b' d1 ∧ ∀ R, Sort.PermIn a' b' d1 R → Sort.SortedIn Sort.ltInt a' b' R → Sort.PermIn a0 b0 d R ∧ Sort.SortedIn Sort.ltInt a0 b0 R) (a : Nat) (b : Nat) cc l p lim' lim (fun a b _ _ _ _ => (b - a).toNat) (pv : Nat) wb wp ((b : Nat) - (a : Nat) : Int) (a : Nat) Hy := by
        rintro Hy rfl
        unfold slices_pdqsortOrdered_uint32.k4
        refine slices_partitionOrdered_uint32.c h4 w1 w2 (by omega) hl fun H5 h5 m5 => ?_
        obtain ⟨⟨mid, ap, d5⟩, hpt⟩ : ∃ r, Sort.partition Sort.ltInt d4 a b pv = r := ⟨_, rfl⟩
        obtain ⟨z1, z2, z3, z4, z5, z6, z7⟩ := Sort.round_part Sort.swo_ltInt (Sort.partition_holds Sort.ltInt) w1 w2 (by omega) hB4 hpt
        rw [hpt] at h5 ⊢
        have m45 := m4.trans m5
        have s5 : d5.size = d.size := z3.trans s4
        simp only at h5 ⊢
        rw [show ((b : Nat) : Int) - ((a : Nat) : Int) = ((b - a : Nat) : Int) by omega, show (8 : Int) = ((8 : Nat) : Int) from rfl, tdivN]
        refine chk (by omega) (chk (by omega) ⟨by decide, chk (by omega) (bcd (fun hlt => ?_) fun hlt => chk (by omega) ?_)⟩)
        · refine ih (mid - a) (by omega) (Nat.le_refl _) h5 z1 (by omega) q1 q2 z4 hl fun H6 d6 h6 m6 hP6 hS6 => chk (by omega) ⟨⟨mid + 1, b, d6, by omega, rfl, by omega, by omega, g3, q1, q2, hP6.1.trans s5, h6, m45.trans m6, (z6 d6 hP6 hS6).1, fun R r1 r2 => toR R ((z6 d6 hP6 hS6).2 R r1 r2)⟩, by first | omega | (dsimp only; omega)⟩
        · rw [show ((mid : Nat) : Int) + 1 = ((mid + 1 : Nat) : Int) by omega]
          refine ih (b - (mid + 1)) (by omega) (Nat.le_refl _) h5 (by omega) (by omega) q1 q2 z5 hl fun H6 d6 h6 m6 hP6 hS6 => ⟨⟨a, mid, d6, rfl, rfl, g1, z1, by omega, q1, q2, hP6.1.trans s5, h6, m45.trans m6, (z7 d6 hP6 hS6).1, fun R r1 r2 => toR R ((z7 d6 hP6 hS6).2 R r1 r2)⟩, by first | omega | (dsimp only; omega)⟩
      refine bcd (fun ha0 => ?_) fun _ => k4 _ rfl
      refine chk (by omega) (rdU h4 (a - 1) (by omega) (by omega) (rdU h4 pv rfl (by omega) (cmp_Less_uint32.c ?_)))
      refine bcn (fun hc => ?_) fun _ => k4 _ rfl
      refine slices_partitionEqualOrdered_uint32.c h4 w1 w2 (by omega) hl fun H5 h5 m5 => ?_
      obtain ⟨⟨mid, d5⟩, hpt⟩ : ∃ r, Sort.partitionEqual Sort.ltInt d4 a b pv = r := ⟨_, rfl⟩
      obtain ⟨z1, z2, z3, z4, z5⟩ := Sort.round_eq Sort.swo_ltInt (Sort.partitionEqual_holds Sort.ltInt) (by omega) w1 w2 (by omega) hB4 hc hpt
      rw [hpt] at h5 ⊢
      exact ⟨⟨mid, b, d5, rfl, rfl, by omega, z2, g3, q1, q2, z3.trans s4, h5, m4.trans m5, z4, fun R r1 r2 => toR R (z5 R r1 r2)⟩, by first | omega | (dsimp only; omega)⟩
    have k2 : ∀ (pv : Nat) (t : Int) (H3 : Hp) (d3 : Array Int), a ≤ pv → pv < b → A1 fU H3 p l d3 → Mod (blkL p) H H3 → Sort.PermIn a b d1 d3 → slices_pdqsortOrdered_uint32.k2 Hx (fun a b lim _ _ Hx => ∃ (a' b' : Nat) (d1 : Array Int), a = (a' : Nat) ∧ b = (b' : Nat) ∧ a0 ≤ a' ∧ a' ≤ b' ∧ b' ≤ b0 ∧ 0 ≤ lim ∧ lim ≤ 1000 ∧ d1.size = d.size ∧ A1 fU Hx p l d1 ∧ Mod (blkL p) H Hx ∧ Sort.Below Sort.ltInt a' b' d1 ∧ ∀ R, Sort.PermIn a' b' d1 R → Sort.SortedIn Sort.ltInt a' b' R → Sort.PermIn a0 b0 d R ∧ Sort.SortedIn Sort.ltInt a0 b0 R) K (a : Nat) (b : Nat) cc l p lim' lim (fun a b _ _ _ _ => (b - a).toNat) wb wp ((b : Nat) - (a : Nat) : Int) (pv : Nat) t H3 := by
      intro pv t H3 d3 w1 w2 h3 m3 hP3
      unfold slices_pdqsortOrdered_uint32.k2
      refine bc_i (fun _ => bc_i (fun _ => bcd (fun _ => ?_) fun _ => k3 pv H3 d3 w1 w2 h3 m3 hP3) fun _ => k3 pv H3 d3 w1 w2 h3 m3 hP3) fun _ => k3 pv H3 d3 w1 w2 h3 m3 hP3
      have s3 : d3.size = d.size := hP3.1.trans gs
      have hB3 : Sort.Below Sort.ltInt a b d3 := Sort.Below.perm hB1 (by omega) hP3
      obtain ⟨hp1, hp2⟩ := Sort.partialInsertionSort_holds (lt := Sort.ltInt) Sort.swo_ltInt d3 a b (by omega) (by omega) hB3
      refine slices_partialInsertionSortOrdered_uint32.c h3 (by omega) (by omega) hl fun H4 h4 m4 => ?_
      refine bc_i (fun hc => fin H4 _ h4 (m3.trans m4) (Sort.permIn_trans _ _ _ a b hP3 hp1) (hp2 hc)) fun _ => k3 pv H4 _ w1 w2 h4 (m3.trans m4) (Sort.permIn_trans _ _ _ a b hP3 hp1)
    refine slices_choosePivotOrdered_uint32.c h2 (by omega) (by omega) hl fun pv t H3 w1 w2 le3 => ?_
    have h3 := A1.le h2 le3
    have m3 := m2.andLe le3
    refine bcd (fun _ => ?_) fun _ => k2 pv t H3 d2 w1 w2 h3 m3 hP2
    refine slices_reverseRangeOrdered_uint32.c h3 (by omega) (by omega) hl fun H4 d4 h4 m4 hP4 => chk (by omega) (chk (by omega) (chk (by omega) ?_))
    rw [show ((b : Nat) : Int) - 1 - (((pv : Nat) : Int) - ((a : Nat) : Int)) = ((b - 1 - (pv - a) : Nat) : Int) by omega]
    exact k2 _ 1 H4 d4 (by omega) (by omega) h4 (m3.trans m4) (Sort.permIn_trans _ _ _ a b hP2 hP4)
  refine bcn (fun _ => ?_) fun _ => k1 lim Hx d1 g4 g5 h1 m1 (Sort.permIn_refl d1 a b)
  exact slices_breakPatternsOrdered_uint32.c h1 g2 (by omega) hl fun H2 d2 h2 m2 hP2 => chk (by omega) (k1 _ H2 d2 (by omega) (by omega) h2 (m1.trans m2) hP2)
end
end Go.Proofs.Ytbpbgkpkkklipaa
namespace Go.Proofs.Ytbpbgkpkkklipaa
open Go.V
/-! ### Texts -/
abbrev BL := List UInt8
def L (s : ByteArray) : BL := s.data.toList
def mkB (l : BL) : ByteArray := ⟨⟨l⟩⟩
@[simp] theorem L_mk (l : BL) : L (mkB l) = l := rfl
@[simp] theorem mk_L (s : ByteArray) : mkB (L s) = s := rfl
theorem L_inj {a b : ByteArray} (h : L a = L b) : a = b := by rw [← mk_L a, ← mk_L b, h]
theorem L_size (s : ByteArray) : s.size = (L s).length := by cases s; rfl
@[simp] theorem L_bs (l : BL) : L (bs l) = l := rfl
theorem bs_mk (l : BL) : bs l = mkB l := rfl
theorem L_append (a b : ByteArray) : L (a ++ b) = L a ++ L b := by simp [L]
theorem L_extract (s : ByteArray) (j k : Nat) : L (s.extract j k) = ((L s).take k).drop j := by
  simp only [L]
  rw [ByteArray.data_extract]
  simp [List.drop_take]
theorem mkB_size (l : BL) : (mkB l).size = l.length := by rw [L_size]; rfl
theorem ext_take (l : BL) (j : Nat) : (mkB l).extract 0 j = mkB (l.take j) := L_inj (by rw [L_extract]; simp)
theorem ext_drop (l : BL) (j : Nat) : (mkB l).extract j (mkB l).size = mkB (l.drop j) := L_inj (by rw [L_extract, L_size]; simp)
theorem eq_iff_L {a b : ByteArray} : a = b ↔ L a = L b := ⟨fun h => h ▸ rfl, L_inj⟩

/-- A text's lines, a line's beginning in hand. -/
def linesA : BL → BL → List BL
  | acc, [] => if acc = [] then [] else [acc]
  | acc, b :: r => if b = 10 then (acc ++ [b]) :: linesA [] r else linesA (acc ++ [b]) r
def lines (s : BL) : List BL := linesA [] s
theorem linesA_app (acc l r : BL) (h : 10 ∉ l) : linesA acc (l ++ r) = linesA (acc ++ l) r := by
  induction l generalizing acc with
  | nil => simp
  | cons b l ih =>
    simp only [List.mem_cons, not_or] at h
    rw [List.cons_append, linesA, if_neg (fun e => h.1 e.symm), ih _ h.2]
    simp
theorem linesA_line (acc l r : BL) (h : 10 ∉ l) : linesA acc (l ++ 10 :: r) = (acc ++ l ++ [10]) :: lines r := by
  rw [linesA_app _ _ _ h, linesA, if_pos rfl]; rfl
theorem linesA_last (acc l : BL) (h : 10 ∉ l) : linesA acc l = if acc ++ l = [] then [] else [acc ++ l] := by
  have := linesA_app acc l [] h
  rw [List.append_nil] at this
  rw [this, linesA]

theorem indexByte_spec (l : BL) (x : UInt8) : (Lib.indexByte l x = -1 ∧ x ∉ l) ∨ ∃ i : Nat, Lib.indexByte l x = (i : Int) ∧ i < l.length ∧ x ∉ l.take i ∧ l = l.take i ++ x :: l.drop (i + 1) := by
  induction l with
  | nil => left; exact ⟨rfl, by simp⟩
  | cons b l ih =>
    unfold Lib.indexByte
    by_cases hb : b = x
    · subst hb
      right
      exact ⟨0, by simp, by simp, by simp, by simp⟩
    · have hb' : (b == x) = false := by simpa using hb
      rw [if_neg (by rw [hb']; simp)]
      rcases ih with ⟨h1, h2⟩ | ⟨i, h1, h2, h3, h4⟩
      · left
        rw [h1]
        exact ⟨by simp, by simp [h2, Ne.symm hb]⟩
      · right
        refine ⟨i + 1, ?_, by simp; omega, ?_, ?_⟩
        · rw [h1, if_neg (by simp)]; omega
        · simp [h3, Ne.symm hb]
        · simp only [List.take_succ_cons, List.cons_append, List.drop_succ_cons, ← h4]

theorem lines_cut {rest : BL} {i : Nat} (hn : 10 ∉ rest.take i) (hd : rest = rest.take i ++ 10 :: rest.drop (i + 1)) : lines rest = (rest.take i ++ [10]) :: lines (rest.drop (i + 1)) :=
  (congrArg lines hd).trans (linesA_line [] _ _ hn)
theorem take_cut {rest : BL} {i : Nat} (hi : i < rest.length) (hd : rest = rest.take i ++ 10 :: rest.drop (i + 1)) : rest.take (i + 1) = rest.take i ++ [10] := by
  have hx : (rest.take i ++ 10 :: rest.drop (i + 1))[i]? = some 10 := by
    rw [List.getElem?_append_right (by simp; omega)]
    simp [show min i rest.length = i by omega]
  rw [← hd] at hx
  rw [List.take_add_one, hx]; rfl

/-! ### Package strings -/
end Go.Proofs.Ytbpbgkpkkklipaa
namespace Go.Proofs.Ytbpbgkpkkklipaa
open Go.V
/-! ### Lines -/
theorem linesA_len (acc l : BL) : (linesA acc l).length ≤ l.length + (if acc = [] then 0 else 1) := by
  induction l generalizing acc with
  | nil => unfold linesA; split <;> simp
  | cons b l ih =>
    unfold linesA
    split
    · have := ih []
      simp at this ⊢
      omega
    · have := ih (acc ++ [b])
      simp at this ⊢
      omega
theorem lines_len (l : BL) : (lines l).length ≤ l.length := by have := linesA_len [] l; simpa [lines] using this
def sv (l : BL) : Value := .string (mkB l)

theorem sl_map {α β : Type} {f : α → Value} {g : β → α} {H : Hp} {p : Option Addr} {l c' : Nat} {xs : List β} : Sl f H p l c' (xs.map g) ↔ Sl (fun x => f (g x)) H p l c' xs := by
  unfold Sl
  simp
end Go.Proofs.Ytbpbgkpkkklipaa
namespace Go.Proofs.Ytbpbgkpkkklipaa
open Go.V
/-! ### Join -/
theorem sv_size (x : BL) : (mkB x).size = x.length := rfl
theorem flat_take {xs : List BL} {i : Nat} (h : i < xs.length) : (xs.take (i + 1)).flatten = (xs.take i).flatten ++ xs[i] := by
  rw [List.take_add_one, List.getElem?_eq_getElem h, List.flatten_append]
  simp only [Option.toList, List.flatten_cons, List.flatten_nil, List.append_nil]
theorem flat_one {xs : List BL} (h : 0 < xs.length) : (xs.take 1).flatten = xs[0] := by rw [flat_take (i := 0) h]; rfl
theorem flat_le {xs : List BL} (i : Nat) : (xs.take i).flatten.length ≤ xs.flatten.length := by
  conv => rhs; rw [← List.take_append_drop i xs, List.flatten_append, List.length_append]
  omega
theorem mkB_nil : mkB [] = bs [] := rfl
/-- A slice of texts: one of them. -/
theorem slT {H : Hp} {p : Option Addr} {l c' : Nat} {xs : List BL} (h : Sl sv H p l c' xs) {i : Int} {F : ByteArray → Prop} (h0 : 0 ≤ i) (hi : i < l) (hF : (hi : i.toNat < xs.length) → F (mkB xs[i.toNat])) : IDX i l fun j => NIL p fun b o => ldS (rd H b (o + j)) F :=
  sl_nil h h0 hi fun _ _ hi e => ⟨_, e, hF hi⟩
/-! ### Is -/
/-- Are lines a text's? -/
def isL : List BL → Bool
  | [] => true
  | l :: r => decide (l ≠ [] ∧ 10 ∉ l.dropLast ∧ (r = [] ∨ l.getLast? = some 10)) && isL r
theorem isL_lines (acc l : BL) (h : 10 ∉ acc) : isL (linesA acc l) = true := by
  induction l generalizing acc with
  | nil =>
    unfold linesA
    split
    · rfl
    · rename_i h1
      simp only [isL, Bool.and_true, decide_eq_true_eq, true_or, and_true]
      exact ⟨h1, fun h2 => h (List.dropLast_subset _ h2)⟩
  | cons b l ih =>
    unfold linesA
    split
    · rename_i hb
      subst hb
      simp only [isL, ih [] (by simp), Bool.and_true, decide_eq_true_eq]
      exact ⟨by simp, by simpa using h, .inr (by simp)⟩
    · rename_i hb
      exact ih _ (by simp [h, Ne.symm hb])
theorem lines_of_is : ∀ (xs : List BL), isL xs = true → lines xs.flatten = xs
  | [], _ => rfl
  | l :: r, h => by
    simp only [isL, Bool.and_eq_true, decide_eq_true_eq] at h
    obtain ⟨⟨h1, h2, h3⟩, h4⟩ := h
    have ih := lines_of_is r h4
    by_cases hl : l.getLast? = some 10
    · obtain ⟨m, rfl⟩ := List.getLast?_eq_some_iff.1 hl
      rw [List.dropLast_concat] at h2
      rw [List.flatten_cons, List.append_assoc, List.singleton_append, lines, linesA_line _ _ _ h2, ih]
      simp
    · rcases h3 with h3 | h3
      · subst h3
        have h5 : 10 ∉ l := fun h5 => by
          rw [← List.dropLast_concat_getLast h1] at h5
          rcases List.mem_append.1 h5 with h5 | h5
          · exact h2 h5
          · simp at h5
            exact hl (by rw [List.getLast?_eq_some_getLast h1, h5])
        simp [lines, linesA_last _ _ h5, h1]
      · exact absurd h3 hl
theorem flat_lines (acc l : BL) : (linesA acc l).flatten = acc ++ l := by
  induction l generalizing acc with
  | nil => unfold linesA; split <;> simp_all
  | cons b l ih =>
    unfold linesA
    split
    · rw [List.flatten_cons, ih]; simp
    · rw [ih]; simp
theorem is_iff (xs : List BL) : isL xs = decide (lines xs.flatten = xs) := by
  by_cases h : lines xs.flatten = xs
  · rw [decide_eq_true h, ← h]
    exact isL_lines [] _ (by simp)
  · rw [decide_eq_false h]
    cases hh : isL xs with
    | false => rfl
    | true => exact absurd (lines_of_is xs hh) h
/-- One of the lines, as a program asks it. -/
def okL (l : BL) (last : Bool) : Bool := !(decide (l = []) || (decide (0 ≤ Lib.indexByte l 10) && decide (Lib.indexByte l 10 < (l.length : Int) - 1)) || (decide (Lib.indexByte l 10 < 0) && !last))
theorem okL_eq (l : BL) (last : Bool) : okL l last = decide (l ≠ [] ∧ 10 ∉ l.dropLast ∧ (last = true ∨ l.getLast? = some 10)) := by
  by_cases h0 : l = []
  · subst h0; simp [okL]
  · have hpos : 0 < l.length := List.length_pos_iff.2 h0
    unfold okL
    rcases indexByte_spec l 10 with ⟨e, hn⟩ | ⟨i, e, hi, hn, hd⟩
    · have h1 : 10 ∉ l.dropLast := fun h => hn (List.dropLast_subset _ h)
      have h2 : l.getLast? ≠ some 10 := fun h => hn (List.mem_of_getLast? h)
      rw [e]
      cases last <;> simp [h0, h1, h2]
    · rw [e]
      by_cases hil : i = l.length - 1
      · have e1 : l.take i ++ [10] = l := by rw [← take_cut hi hd, List.take_of_length_le (by omega)]
        have h1 : 10 ∉ l.dropLast := by rw [← e1, List.dropLast_concat]; exact hn
        have h2 : l.getLast? = some 10 := by rw [← e1]; simp
        have h3 : ¬ ((i : Int) < (l.length : Int) - 1) := by omega
        simp [h0, h1, h2, h3]
      · have h1 : 10 ∈ l.dropLast := by
          have : l[i]? = some 10 := by
            have := take_cut hi hd
            have h5 : (l.take (i + 1))[i]? = some 10 := by rw [this, List.getElem?_append_right (by simp; omega)]; simp [show min i l.length = i by omega]
            rwa [List.getElem?_take_of_lt (by omega)] at h5
          have h6 : l.dropLast[i]? = some 10 := by rw [List.getElem?_dropLast, if_pos (by omega)]; exact this
          exact List.mem_of_getElem? h6
        have h3 : (i : Int) < (l.length : Int) - 1 := by omega
        simp [h0, h1, h3]
theorem isL_drop {xs : List BL} {i : Nat} (h : i < xs.length) : isL (xs.drop i) = (okL xs[i] (decide (i + 1 = xs.length)) && isL (xs.drop (i + 1))) := by
  rw [List.drop_eq_getElem_cons h, isL, okL_eq]
  congr 1
  apply decide_eq_decide.2
  rw [decide_eq_true_eq]
  have : xs.drop (i + 1) = [] ↔ i + 1 = xs.length := by rw [List.drop_eq_nil_iff]; omega
  rw [this]
end Go.Proofs.Ytbpbgkpkkklipaa
namespace Go.Proofs.Ytbpbgkpkkklipaa
open Go.V
/-! ### Fits -/
def fitsL (xs : List BL) : Bool := decide (xs.length ≤ 40 ∧ ∀ x ∈ xs, x.length ≤ 60)
/-! ### The document's lines -/
theorem getD_L {s : ByteArray} {k : Nat} (h : k < s.size) : s.data.toList.getD k 0 = (L s)[k]'(by rw [← L_size]; exact h) := by
  have : k < (L s).length := by rw [← L_size]; exact h
  show (L s).getD k 0 = _
  simp [List.getD, this]
theorem u8_eq {a b : UInt8} : ((a.toNat : Nat) : Int) = ((b.toNat : Nat) : Int) ↔ a = b := by
  constructor
  · intro h
    exact UInt8.toNat_inj.1 (by omega)
  · rintro rfl; rfl
/-! ### What the statements use -/
end Go.Proofs.Ytbpbgkpkkklipaa
