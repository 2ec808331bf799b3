/- Contracts and plain laws that the claim rests on, for every input: no condition. -/
import Derived.Test.YtlpdenhcaipppaaZ2
namespace Go.Proofs.Ytlpdenhcaipppaa
open Go.V
-- cento/centolaw18.CodecBack (3)
def centolaw18_CodecBack.ann : Ann := { loops := [], pars := [] }
def centolaw18_CodecBack.k1 (K : Bool → Hp → Prop) (bq16 : Nat) (cut15 : Int) (more14 : ByteArray) (Hx51 : Hp) : Prop :=
  ldI .u32 (rd Hx51 bq16 0) fun x52 => ldL (rd Hx51 bq16 1) fun xp53 xl54 xc55 => ldL (rd Hx51 bq16 2) fun xp56 xl57 xc58 => ldL (rd Hx51 bq16 3) fun xp59 xl60 xc61 => ldL (rd Hx51 bq16 4) fun xp62 xl63 xc64 => codec_Put.C x52 xp53 xl54 xc55 xp56 xl57 xc58 xp59 xl60 xc61 xp62 xl63 xc64 Hx51 fun r65 r66 Hx67 => bc ((decide (¬ r66 = (0 : Int)))) (K (decide (r65 = (bs []))) Hx67) (((r65.size + more14.size : Nat) : Int) ≤ 9223372036854775807 ∧ (codec_Get.C (r65 ++ more14) Hx67 fun r82 rp83 rl84 rc85 rp86 rl87 rc88 rp89 rl90 rc91 rp92 rl93 rc94 r95 r96 Hx97 => NEW Hx97 [.int .u32 (0 : Int), .slice none 0 0, .slice none 0 0, .slice none 0 0, .slice none 0 0] fun bq99 Hx100 => ST Hx100 bq99 0 (.int .u32 r82) fun Hx101 => ST Hx101 bq99 1 (.slice rp83 rl84 rc85) fun Hx102 => ST Hx102 bq99 2 (.slice rp86 rl87 rc88) fun Hx103 => ST Hx103 bq99 3 (.slice rp89 rl90 rc91) fun Hx104 => ST Hx104 bq99 4 (.slice rp92 rl93 rc94) fun Hx105 => ldI .u32 (rd Hx105 bq99 0) fun x106 => ldL (rd Hx105 bq99 1) fun xp107 xl108 xc109 => ldL (rd Hx105 bq99 2) fun xp110 xl111 xc112 => ldL (rd Hx105 bq99 3) fun xp113 xl114 xc115 => ldL (rd Hx105 bq99 4) fun xp116 xl117 xc118 => codec_Put.C x106 xp107 xl108 xc109 xp110 xl111 xc112 xp113 xl114 xc115 xp116 xl117 xc118 Hx105 fun r119 r120 Hx121 => CHK .i64 cut15 fun x135 => ¬ ((r65.size : Nat) : Int) = 0 ∧ (BND none (some (Int.tmod x135 ((r65.size : Nat) : Int))) r65.size r65.size fun j136 k137 => codec_Get.C (r65.extract j136 k137) Hx121 fun r138 rp139 rl140 rc141 rp142 rl143 rc144 rp145 rl146 rc147 rp148 rl149 rc150 r151 r152 Hx153 => NEW Hx153 [.int .u32 (0 : Int), .slice none 0 0, .slice none 0 0, .slice none 0 0, .slice none 0 0] fun bq155 Hx156 => ST Hx156 bq155 0 (.int .u32 r138) fun Hx157 => ST Hx157 bq155 1 (.slice rp139 rl140 rc141) fun Hx158 => ST Hx158 bq155 2 (.slice rp142 rl143 rc144) fun Hx159 => ST Hx159 bq155 3 (.slice rp145 rl146 rc147) fun Hx160 => ST Hx160 bq155 4 (.slice rp148 rl149 rc150) fun Hx161 => bc ((decide (r96 = (0 : Int)))) (bc ((decide (r95 = more14))) (ldI .u32 (rd Hx161 bq16 0) fun x162 => ldL (rd Hx161 bq16 1) fun xp163 xl164 xc165 => ldL (rd Hx161 bq16 2) fun xp166 xl167 xc168 => ldL (rd Hx161 bq16 3) fun xp169 xl170 xc171 => ldL (rd Hx161 bq16 4) fun xp172 xl173 xc174 => ldI .u32 (rd Hx161 bq99 0) fun x175 => ldL (rd Hx161 bq99 1) fun xp176 xl177 xc178 => ldL (rd Hx161 bq99 2) fun xp179 xl180 xc181 => ldL (rd Hx161 bq99 3) fun xp182 xl183 xc184 => ldL (rd Hx161 bq99 4) fun xp185 xl186 xc187 => centoref12_Same.C x162 xp163 xl164 xc165 xp166 xl167 xc168 xp169 xl170 xc171 xp172 xl173 xc174 x175 xp176 xl177 xc178 xp179 xl180 xc181 xp182 xl183 xc184 xp185 xl186 xc187 Hx161 fun r188 Hx189 => bc (r188) (bc ((decide (r120 = (0 : Int)))) (bc ((decide (r119 = r65))) (bc ((decide (r152 = (26 : Int)))) (BND none (some (Int.tmod x135 ((r65.size : Nat) : Int))) r65.size r65.size fun j216 k217 => K (decide (r151 = (r65.extract j216 k217))) Hx189) (K false Hx189)) (K false Hx189)) (K false Hx189)) (K false Hx189)) (K false Hx161)) (K false Hx161))))
def centolaw18_CodecBack.F (p1 : Int) (pp2 : Option Addr) (pl3 : Nat) (pc4 : Nat) (pp5 : Option Addr) (pl6 : Nat) (pc7 : Nat) (pp8 : Option Addr) (pl9 : Nat) (pc10 : Nat) (pp11 : Option Addr) (pl12 : Nat) (pc13 : Nat) (more14 : ByteArray) (cut15 : Int) (H : Hp) (K : Bool → Hp → Prop) : Prop :=
  NEW H [.int .u32 p1, .slice pp2 pl3 pc4, .slice pp5 pl6 pc7, .slice pp8 pl9 pc10, .slice pp11 pl12 pc13] fun bq16 Hx17 => centolaw18_known.C  Hx17 fun r18 Hx19 => bc ((!r18)) (K false Hx19) (ldI .u32 (rd Hx19 bq16 0) fun x21 => ldL (rd Hx19 bq16 1) fun xp22 xl23 xc24 => ldL (rd Hx19 bq16 2) fun xp25 xl26 xc27 => ldL (rd Hx19 bq16 3) fun xp28 xl29 xc30 => ldL (rd Hx19 bq16 4) fun xp31 xl32 xc33 => centolaw18_few.C x21 xp22 xl23 xc24 xp25 xl26 xc27 xp28 xl29 xc30 xp31 xl32 xc33 Hx19 fun r34 Hx35 => bc ((!r34)) (K true Hx35) (bc ((decide ((100 : Int) < ((more14.size : Nat) : Int)))) (K true Hx35) (centolaw18_CodecBack.k1 K bq16 cut15 more14 Hx35)))
theorem centolaw18_CodecBack.vc (p1 : Int) (pp2 : Option Addr) (pl3 : Nat) (pc4 : Nat) (pp5 : Option Addr) (pl6 : Nat) (pc7 : Nat) (pp8 : Option Addr) (pl9 : Nat) (pc10 : Nat) (pp11 : Option Addr) (pl12 : Nat) (pc13 : Nat) (more14 : ByteArray) (cut15 : Int) (H : Hp) (K : Bool → Hp → Prop) : vcFun prog tab centolaw18_CodecBack.ann none Try.f3 (List.map AV.v [.agg ⟨[.int .u32 p1, .slice pp2 pl3 pc4, .slice pp5 pl6 pc7, .slice pp8 pl9 pc10, .slice pp11 pl12 pc13]⟩, .string more14, .int .u16 cut15]) H (fun v H2 _ => liftB v fun r225 => K r225 H2) = centolaw18_CodecBack.F p1 pp2 pl3 pc4 pp5 pl6 pc7 pp8 pl9 pc10 pp11 pl12 pc13 more14 cut15 H K := by kernel_rfl
theorem centolaw18_CodecBack.of (p1 : Int) (pp2 : Option Addr) (pl3 : Nat) (pc4 : Nat) (pp5 : Option Addr) (pl6 : Nat) (pc7 : Nat) (pp8 : Option Addr) (pl9 : Nat) (pc10 : Nat) (pp11 : Option Addr) (pl12 : Nat) (pc13 : Nat) (more14 : ByteArray) (cut15 : Int) {H : Hp} {K : Bool → Hp → Prop} (h : centolaw18_CodecBack.F p1 pp2 pl3 pc4 pp5 pl6 pc7 pp8 pl9 pc10 pp11 pl12 pc13 more14 cut15 H K) : centolaw18_CodecBack.C p1 pp2 pl3 pc4 pp5 pl6 pc7 pp8 pl9 pc10 pp11 pl12 pc13 more14 cut15 H K := CallH_of_vc mix tabOk Try.func3 (by kernel_rfl) ((centolaw18_CodecBack.vc p1 pp2 pl3 pc4 pp5 pl6 pc7 pp8 pl9 pc10 pp11 pl12 pc13 more14 cut15 H K).mpr h)
-- cento/centolaw18.CodecNums (4)
def centolaw18_CodecNums.ann : Ann := { loops := [(0, [(14, .one (.int .i64)), (15, .one (.int .i64))])], pars := [] }
def centolaw18_CodecNums.F (v1 : Int) (more2 : ByteArray) (H : Hp) (K : Bool → Hp → Prop) : Prop :=
  centolaw18_known.C  H fun r3 Hx4 => bc ((!r3)) (K false Hx4) (bc ((decide ((50 : Int) < ((more2.size : Nat) : Int)))) (K true Hx4) (CHK .i64 (inot .u32 v1 (2147483648 : Int)) fun x7 => codec_Num.C x7 Hx4 fun r8 Hx9 => ((r8.size + more2.size : Nat) : Int) ≤ 9223372036854775807 ∧ (codec_Digit.C (r8 ++ more2) Hx9 fun r11 r12 r13 Hx14 => CNB prog 9 41 r8 Hx14 fun v Hx19 => liftL v fun xp16 xl17 _ => CHK .i64 (((xl17 : Nat) : Int) - (1 : Int)) fun x20 => CHK .i64 (((xl17 : Nat) : Int) - (1 : Int)) fun x21 => IDX x21 xl17 fun k22 => NIL xp16 fun bq23 oq24 => ldI .u8 (rd Hx19 bq23 (oq24 + k22)) fun x25 => IDX x20 xl17 fun k26 => NIL xp16 fun bq27 oq28 => ST Hx19 bq27 (oq28 + k26) (.int .u8 (ior .u8 x25 (128 : Int))) fun Hx29 => BTS Hx29 xp16 xl17 fun x30 => ((x30.size + (bs [0]).size : Nat) : Int) ≤ 9223372036854775807 ∧ (codec_Digit.C (x30 ++ (bs [0])) Hx29 fun _ _ r33 Hx34 => 0 ≤ (7 : Int) ∧ (∃ (Iq39 : Int → Int → Hp → Prop) (mu40 : Int → Int → Hp → Nat), Iq39 (1 : Int) (ishr .i64 x7 (7 : Int)) Hx34 ∧ ∀ (size36 : Int) (k37 : Int) (Hx38 : Hp), Iq39 size36 k37 Hx38 → bc ((decide ((0 : Int) < k37))) (CHK .i64 (size36 + (1 : Int)) fun x41 => 0 ≤ (7 : Int) ∧ (Iq39 x41 (ishr .i64 k37 (7 : Int)) Hx38 ∧ mu40 x41 (ishr .i64 k37 (7 : Int)) Hx38 < mu40 size36 k37 Hx38)) (bc (r13) (bc ((decide (r11 = x7))) (bc ((decide (r12 = more2))) (bc ((decide (((r8.size : Nat) : Int) = size36))) (bc ((!r33)) (codec_Num.C (-5 : Int) Hx38 fun r44 Hx45 => bc ((decide (r44 = (bs [0])))) (codec_Num.C (1099511627776 : Int) Hx45 fun r47 Hx48 => codec_Num.C (2147483647 : Int) Hx48 fun r50 Hx51 => K (decide (r47 = r50)) Hx51) (K false Hx45)) (K false Hx38)) (K false Hx38)) (K false Hx38)) (K false Hx38)) (K false Hx38)))))))
theorem centolaw18_CodecNums.vc (v1 : Int) (more2 : ByteArray) (H : Hp) (K : Bool → Hp → Prop) : vcFun prog tab centolaw18_CodecNums.ann none Try.f4 (List.map AV.v [.int .u32 v1, .string more2]) H (fun v H2 _ => liftB v fun r60 => K r60 H2) = centolaw18_CodecNums.F v1 more2 H K := by kernel_rfl
theorem centolaw18_CodecNums.of (v1 : Int) (more2 : ByteArray) {H : Hp} {K : Bool → Hp → Prop} (h : centolaw18_CodecNums.F v1 more2 H K) : centolaw18_CodecNums.C v1 more2 H K := CallH_of_vc mix tabOk Try.func4 (by kernel_rfl) ((centolaw18_CodecNums.vc v1 more2 H K).mpr h)
-- cento/centolaw18.CodecTurned (5)
def centolaw18_CodecTurned.ann : Ann := { loops := [], pars := [] }
def centolaw18_CodecTurned.k2 (K : Bool → Hp → Prop) (bq16 : Nat) (xl83 : Nat) (xp82 : Option Addr) (Hx96 : Hp) : Prop :=
  BTS Hx96 xp82 xl83 fun x97 => codec_Get.C x97 Hx96 fun r98 rp99 rl100 rc101 rp102 rl103 rc104 rp105 rl106 rc107 rp108 rl109 rc110 r111 r112 Hx113 => NEW Hx113 [.int .u32 (0 : Int), .slice none 0 0, .slice none 0 0, .slice none 0 0, .slice none 0 0] fun bq115 Hx116 => ST Hx116 bq115 0 (.int .u32 r98) fun Hx117 => ST Hx117 bq115 1 (.slice rp99 rl100 rc101) fun Hx118 => ST Hx118 bq115 2 (.slice rp102 rl103 rc104) fun Hx119 => ST Hx119 bq115 3 (.slice rp105 rl106 rc107) fun Hx120 => ST Hx120 bq115 4 (.slice rp108 rl109 rc110) fun Hx121 => bc ((decide (¬ r112 = (0 : Int)))) (bc ((decide (r112 = (26 : Int)))) (BTS Hx121 xp82 xl83 fun x122 => K (decide (r111 = x122)) Hx121) (K false Hx121)) (ldI .u32 (rd Hx121 bq115 0) fun x125 => ldL (rd Hx121 bq115 1) fun xp126 xl127 xc128 => ldL (rd Hx121 bq115 2) fun xp129 xl130 xc131 => ldL (rd Hx121 bq115 3) fun xp132 xl133 xc134 => ldL (rd Hx121 bq115 4) fun xp135 xl136 xc137 => codec_Put.C x125 xp126 xl127 xc128 xp129 xl130 xc131 xp132 xl133 xc134 xp135 xl136 xc137 Hx121 fun r138 r139 Hx140 => bc ((decide (r139 = (0 : Int)))) (((r138.size + r111.size : Nat) : Int) ≤ 9223372036854775807 ∧ (BTS Hx140 xp82 xl83 fun x154 => bc ((decide ((r138 ++ r111) = x154))) (bc ((decide (¬ r111 = (bs [])))) (K true Hx140) (ldI .u32 (rd Hx140 bq16 0) fun x156 => ldL (rd Hx140 bq16 1) fun xp157 xl158 xc159 => ldL (rd Hx140 bq16 2) fun xp160 xl161 xc162 => ldL (rd Hx140 bq16 3) fun xp163 xl164 xc165 => ldL (rd Hx140 bq16 4) fun xp166 xl167 xc168 => ldI .u32 (rd Hx140 bq115 0) fun x169 => ldL (rd Hx140 bq115 1) fun xp170 xl171 xc172 => ldL (rd Hx140 bq115 2) fun xp173 xl174 xc175 => ldL (rd Hx140 bq115 3) fun xp176 xl177 xc178 => ldL (rd Hx140 bq115 4) fun xp179 xl180 xc181 => centoref12_Same.C x156 xp157 xl158 xc159 xp160 xl161 xc162 xp163 xl164 xc165 xp166 xl167 xc168 x169 xp170 xl171 xc172 xp173 xl174 xc175 xp176 xl177 xc178 xp179 xl180 xc181 Hx140 fun r182 Hx183 => K (!r182) Hx183)) (K false Hx140))) (K false Hx140))
def centolaw18_CodecTurned.k1 (K : Bool → Hp → Prop) (atq14 : Int) (bq16 : Nat) (x15 : Int) (Hx51 : Hp) : Prop :=
  ldI .u32 (rd Hx51 bq16 0) fun x52 => ldL (rd Hx51 bq16 1) fun xp53 xl54 xc55 => ldL (rd Hx51 bq16 2) fun xp56 xl57 xc58 => ldL (rd Hx51 bq16 3) fun xp59 xl60 xc61 => ldL (rd Hx51 bq16 4) fun xp62 xl63 xc64 => codec_Put.C x52 xp53 xl54 xc55 xp56 xl57 xc58 xp59 xl60 xc61 xp62 xl63 xc64 Hx51 fun r65 r66 Hx67 => bc ((decide (¬ r66 = (0 : Int)))) (K (decide (r65 = (bs []))) Hx67) (CNB prog 9 41 r65 Hx67 fun v Hx85 => liftL v fun xp82 xl83 _ => (CHK .i64 atq14 fun x86 => ¬ ((xl83 : Nat) : Int) = 0 ∧ (CHK .i64 atq14 fun x87 => ¬ ((xl83 : Nat) : Int) = 0 ∧ (IDX (Int.tmod x87 ((xl83 : Nat) : Int)) xl83 fun k88 => NIL xp82 fun bq89 oq90 => ldI .u8 (rd Hx85 bq89 (oq90 + k88)) fun x91 => IDX (Int.tmod x86 ((xl83 : Nat) : Int)) xl83 fun k92 => NIL xp82 fun bq93 oq94 => ST Hx85 bq93 (oq94 + k92) (.int .u8 (ixor .u8 x91 x15)) fun Hx95 => centolaw18_CodecTurned.k2 K bq16 xl83 xp82 Hx95))) ∧ (CHK .i64 atq14 fun x213 => ¬ ((xl83 : Nat) : Int) = 0 ∧ (IDX (Int.tmod x213 ((xl83 : Nat) : Int)) xl83 fun k214 => NIL xp82 fun bq215 oq216 => ldI .u8 (rd Hx85 bq215 (oq216 + k214)) fun x217 => CHK .i64 atq14 fun x218 => rd Hx85 bq215 (oq216 + k214) = some (.int .u8 x217) ∧ (¬ ((xl83 : Nat) : Int) = 0 ∧ (IDX (Int.tmod x218 ((xl83 : Nat) : Int)) xl83 fun k219 => NIL xp82 fun bq220 oq221 => ST Hx85 bq220 (oq221 + k219) (.int .u8 (ixor .u8 x217 x15)) fun Hx222 => centolaw18_CodecTurned.k2 K bq16 xl83 xp82 Hx222)))))
def centolaw18_CodecTurned.F (p1 : Int) (pp2 : Option Addr) (pl3 : Nat) (pc4 : Nat) (pp5 : Option Addr) (pl6 : Nat) (pc7 : Nat) (pp8 : Option Addr) (pl9 : Nat) (pc10 : Nat) (pp11 : Option Addr) (pl12 : Nat) (pc13 : Nat) (atq14 : Int) (x15 : Int) (H : Hp) (K : Bool → Hp → Prop) : Prop :=
  NEW H [.int .u32 p1, .slice pp2 pl3 pc4, .slice pp5 pl6 pc7, .slice pp8 pl9 pc10, .slice pp11 pl12 pc13] fun bq16 Hx17 => centolaw18_known.C  Hx17 fun r18 Hx19 => bc ((!r18)) (K false Hx19) (ldI .u32 (rd Hx19 bq16 0) fun x21 => ldL (rd Hx19 bq16 1) fun xp22 xl23 xc24 => ldL (rd Hx19 bq16 2) fun xp25 xl26 xc27 => ldL (rd Hx19 bq16 3) fun xp28 xl29 xc30 => ldL (rd Hx19 bq16 4) fun xp31 xl32 xc33 => centolaw18_few.C x21 xp22 xl23 xc24 xp25 xl26 xc27 xp28 xl29 xc30 xp31 xl32 xc33 Hx19 fun r34 Hx35 => bc ((!r34)) (K true Hx35) (bc ((decide (x15 = (0 : Int)))) (K true Hx35) (centolaw18_CodecTurned.k1 K atq14 bq16 x15 Hx35)))
theorem centolaw18_CodecTurned.vc (p1 : Int) (pp2 : Option Addr) (pl3 : Nat) (pc4 : Nat) (pp5 : Option Addr) (pl6 : Nat) (pc7 : Nat) (pp8 : Option Addr) (pl9 : Nat) (pc10 : Nat) (pp11 : Option Addr) (pl12 : Nat) (pc13 : Nat) (atq14 : Int) (x15 : Int) (H : Hp) (K : Bool → Hp → Prop) : vcFun prog tab centolaw18_CodecTurned.ann none Try.f5 (List.map AV.v [.agg ⟨[.int .u32 p1, .slice pp2 pl3 pc4, .slice pp5 pl6 pc7, .slice pp8 pl9 pc10, .slice pp11 pl12 pc13]⟩, .int .u16 atq14, .int .u8 x15]) H (fun v H2 _ => liftB v fun r223 => K r223 H2) = centolaw18_CodecTurned.F p1 pp2 pl3 pc4 pp5 pl6 pc7 pp8 pl9 pc10 pp11 pl12 pc13 atq14 x15 H K := by kernel_rfl
theorem centolaw18_CodecTurned.of (p1 : Int) (pp2 : Option Addr) (pl3 : Nat) (pc4 : Nat) (pp5 : Option Addr) (pl6 : Nat) (pc7 : Nat) (pp8 : Option Addr) (pl9 : Nat) (pc10 : Nat) (pp11 : Option Addr) (pl12 : Nat) (pc13 : Nat) (atq14 : Int) (x15 : Int) {H : Hp} {K : Bool → Hp → Prop} (h : centolaw18_CodecTurned.F p1 pp2 pl3 pc4 pp5 pl6 pc7 pp8 pl9 pc10 pp11 pl12 pc13 atq14 x15 H K) : centolaw18_CodecTurned.C p1 pp2 pl3 pc4 pp5 pl6 pc7 pp8 pl9 pc10 pp11 pl12 pc13 atq14 x15 H K := CallH_of_vc mix tabOk Try.func5 (by kernel_rfl) ((centolaw18_CodecTurned.vc p1 pp2 pl3 pc4 pp5 pl6 pc7 pp8 pl9 pc10 pp11 pl12 pc13 atq14 x15 H K).mpr h)
-- cento/centolaw18.known (6)
def centolaw18_known.ann : Ann := { loops := [], pars := [] }
def centolaw18_known.F  (H : Hp) (K : Bool → Hp → Prop) : Prop :=
  NEW H ([.string (bs [97])]) fun bq1 Hx2 => NEW Hx2 [.int .u32 (0 : Int), .slice none 0 0, .slice none 0 0, .slice none 0 0, .slice none 0 0] fun bq3 Hx4 => ST Hx4 bq3 0 (.int .u32 (65537 : Int)) fun Hx5 => ST Hx5 bq3 1 (.slice none 0 0) fun Hx6 => ST Hx6 bq3 2 (.slice (some ⟨bq1, 0, none⟩) 1 1) fun Hx7 => ST Hx7 bq3 3 (.slice none 0 0) fun Hx8 => ST Hx8 bq3 4 (.slice none 0 0) fun Hx9 => ldI .u32 (rd Hx9 bq3 0) fun x10 => ldL (rd Hx9 bq3 1) fun xp11 xl12 xc13 => ldL (rd Hx9 bq3 2) fun xp14 xl15 xc16 => ldL (rd Hx9 bq3 3) fun xp17 xl18 xc19 => ldL (rd Hx9 bq3 4) fun xp20 xl21 xc22 => codec_Put.C x10 xp11 xl12 xc13 xp14 xl15 xc16 xp17 xl18 xc19 xp20 xl21 xc22 Hx9 fun r23 r24 Hx25 => ((r23.size + (bs [120]).size : Nat) : Int) ≤ 9223372036854775807 ∧ (codec_Get.C (r23 ++ (bs [120])) Hx25 fun r39 rp40 rl41 rc42 rp43 rl44 rc45 rp46 rl47 rc48 rp49 rl50 rc51 r52 r53 Hx54 => NEW Hx54 [.int .u32 (0 : Int), .slice none 0 0, .slice none 0 0, .slice none 0 0, .slice none 0 0] fun bq56 Hx57 => ST Hx57 bq56 0 (.int .u32 r39) fun Hx58 => ST Hx58 bq56 1 (.slice rp40 rl41 rc42) fun Hx59 => ST Hx59 bq56 2 (.slice rp43 rl44 rc45) fun Hx60 => ST Hx60 bq56 3 (.slice rp46 rl47 rc48) fun Hx61 => ST Hx61 bq56 4 (.slice rp49 rl50 rc51) fun Hx62 => codec_Get.C (bs []) Hx62 fun r63 rp64 rl65 rc66 rp67 rl68 rc69 rp70 rl71 rc72 rp73 rl74 rc75 _ r77 Hx78 => NEW Hx78 [.int .u32 (0 : Int), .slice none 0 0, .slice none 0 0, .slice none 0 0, .slice none 0 0] fun bq80 Hx81 => ST Hx81 bq80 0 (.int .u32 r63) fun Hx82 => ST Hx82 bq80 1 (.slice rp64 rl65 rc66) fun Hx83 => ST Hx83 bq80 2 (.slice rp67 rl68 rc69) fun Hx84 => ST Hx84 bq80 3 (.slice rp70 rl71 rc72) fun Hx85 => ST Hx85 bq80 4 (.slice rp73 rl74 rc75) fun Hx86 => codec_Digit.C (bs [172, 2, 122]) Hx86 fun r87 r88 r89 Hx90 => codec_Put.C (0 : Int) none 0 0 none 0 0 none 0 0 none 0 0 Hx90 fun _ r93 Hx94 => bc ((decide (r24 = (0 : Int)))) (bc ((decide (r53 = (0 : Int)))) (bc ((decide (r52 = (bs [120])))) (ldI .u32 (rd Hx94 bq3 0) fun x108 => ldL (rd Hx94 bq3 1) fun xp109 xl110 xc111 => ldL (rd Hx94 bq3 2) fun xp112 xl113 xc114 => ldL (rd Hx94 bq3 3) fun xp115 xl116 xc117 => ldL (rd Hx94 bq3 4) fun xp118 xl119 xc120 => ldI .u32 (rd Hx94 bq56 0) fun x121 => ldL (rd Hx94 bq56 1) fun xp122 xl123 xc124 => ldL (rd Hx94 bq56 2) fun xp125 xl126 xc127 => ldL (rd Hx94 bq56 3) fun xp128 xl129 xc130 => ldL (rd Hx94 bq56 4) fun xp131 xl132 xc133 => centoref12_Same.C x108 xp109 xl110 xc111 xp112 xl113 xc114 xp115 xl116 xc117 xp118 xl119 xc120 x121 xp122 xl123 xc124 xp125 xl126 xc127 xp128 xl129 xc130 xp131 xl132 xc133 Hx94 fun r134 Hx135 => bc (r134) (bc ((decide (r77 = (26 : Int)))) (codec_Num.C (300 : Int) Hx135 fun r162 Hx163 => bc ((decide (r162 = (bs [172, 2])))) (bc (r89) (bc ((decide (r87 = (300 : Int)))) (bc ((decide (r88 = (bs [122])))) (bc ((decide (r93 = (10 : Int)))) (codec_Text.C (bs [97, 98]) Hx163 fun r165 Hx166 => K (decide (r165 = (bs [2, 97, 98]))) Hx166) (K false Hx163)) (K false Hx163)) (K false Hx163)) (K false Hx163)) (K false Hx163)) (K false Hx135)) (K false Hx135)) (K false Hx94)) (K false Hx94)) (K false Hx94))
theorem centolaw18_known.vc  (H : Hp) (K : Bool → Hp → Prop) : vcFun prog tab centolaw18_known.ann none Try.f6 (List.map AV.v []) H (fun v H2 _ => liftB v fun r179 => K r179 H2) = centolaw18_known.F  H K := by kernel_rfl
theorem centolaw18_known.of  {H : Hp} {K : Bool → Hp → Prop} (h : centolaw18_known.F  H K) : centolaw18_known.C  H K := CallH_of_vc mix tabOk Try.func6 (by kernel_rfl) ((centolaw18_known.vc  H K).mpr h)
-- cento/centolaw18.few (7)
def centolaw18_few.ann : Ann := { loops := [(0, [(3, .one (.int .i64))]), (2, [(5, .one (.int .i64))]), (4, [(6, .one (.int .i64))]), (6, [(7, .one (.int .i64))])], pars := [] }
def centolaw18_few.k1 (Hx17 : Hp) (Iq18 : Int → Hp → Prop) (K : Bool → Hp → Prop) (bq39 : Nat) (i16 : Int) (mu19 : Int → Hp → Nat) (Hx59 : Hp) : Prop :=
  ∃ (Iq62 : Int → Hp → Prop) (mu63 : Int → Hp → Nat), Iq62 (0 : Int) Hx59 ∧ ∀ (k60 : Int) (Hx61 : Hp), Iq62 k60 Hx61 → ldL (rd Hx61 bq39 1) fun _ xl65 _ => bc ((decide (k60 < ((xl65 : Nat) : Int)))) (ldL (rd Hx61 bq39 1) fun xp67 xl68 _ => IDX k60 xl68 fun k70 => NIL xp67 fun bq71 oq72 => ldS (rd Hx61 bq71 (oq72 + k70)) fun x73 => bc ((decide ((100 : Int) < ((x73.size : Nat) : Int)))) (K false Hx61) (CHK .i64 (k60 + (1 : Int)) fun x75 => Iq62 x75 Hx61 ∧ mu63 x75 Hx61 < mu63 k60 Hx61)) (CHK .i64 (i16 + (1 : Int)) fun x77 => Iq18 x77 Hx61 ∧ mu19 x77 Hx61 < mu19 i16 Hx17)
def centolaw18_few.F (p1 : Int) (pp2 : Option Addr) (pl3 : Nat) (pc4 : Nat) (pp5 : Option Addr) (pl6 : Nat) (pc7 : Nat) (pp8 : Option Addr) (pl9 : Nat) (pc10 : Nat) (pp11 : Option Addr) (pl12 : Nat) (pc13 : Nat) (H : Hp) (K : Bool → Hp → Prop) : Prop :=
  NEW H [.int .u32 p1, .slice pp2 pl3 pc4, .slice pp5 pl6 pc7, .slice pp8 pl9 pc10, .slice pp11 pl12 pc13] fun bq14 Hx15 => ∃ (Iq18 : Int → Hp → Prop) (mu19 : Int → Hp → Nat), Iq18 (0 : Int) Hx15 ∧ ∀ (i16 : Int) (Hx17 : Hp), Iq18 i16 Hx17 → ldL (rd Hx17 bq14 4) fun _ xl21 _ => bc ((decide (i16 < ((xl21 : Nat) : Int)))) (ldL (rd Hx17 bq14 4) fun xp23 xl24 _ => IDX i16 xl24 fun k26 => NIL xp23 fun bq27 oq28 => ldS (rd Hx17 bq27 (oq28 + (k26 * 4))) fun x29 => ldL (rd Hx17 bq27 ((oq28 + (k26 * 4)) + 1)) fun xp30 xl31 xc32 => ldL (rd Hx17 bq27 (((oq28 + (k26 * 4)) + 1) + 1)) fun xp33 xl34 xc35 => ldL (rd Hx17 bq27 ((((oq28 + (k26 * 4)) + 1) + 1) + 1)) fun xp36 xl37 xc38 => NEW Hx17 [.string .empty, .slice none 0 0, .slice none 0 0, .slice none 0 0] fun bq39 Hx40 => ST Hx40 bq39 0 (.string x29) fun Hx41 => ST Hx41 bq39 1 (.slice xp30 xl31 xc32) fun Hx42 => ST Hx42 bq39 2 (.slice xp33 xl34 xc35) fun Hx43 => ST Hx43 bq39 3 (.slice xp36 xl37 xc38) fun Hx44 => ldL (rd Hx44 bq39 1) fun _ xl46 _ => bc ((decide ((50 : Int) < ((xl46 : Nat) : Int)))) (K false Hx44) (ldL (rd Hx44 bq39 2) fun _ xl50 _ => bc ((decide ((90 : Int) < ((xl50 : Nat) : Int)))) (K false Hx44) (ldL (rd Hx44 bq39 3) fun _ xl54 _ => bc ((decide ((50 : Int) < ((xl54 : Nat) : Int)))) (K false Hx44) (ldS (rd Hx44 bq39 0) fun x57 => bc ((decide ((40 : Int) < ((x57.size : Nat) : Int)))) (K false Hx44) (centolaw18_few.k1 Hx17 Iq18 K bq39 i16 mu19 Hx44))))) (∃ (Iq81 : Int → Hp → Prop) (mu82 : Int → Hp → Nat), Iq81 (0 : Int) Hx17 ∧ ∀ (i79 : Int) (Hx80 : Hp), Iq81 i79 Hx80 → ldL (rd Hx80 bq14 2) fun _ xl84 _ => bc ((decide (i79 < ((xl84 : Nat) : Int)))) (ldL (rd Hx80 bq14 2) fun xp86 xl87 _ => IDX i79 xl87 fun k89 => NIL xp86 fun bq90 oq91 => ldS (rd Hx80 bq90 (oq91 + k89)) fun x92 => bc ((decide ((40 : Int) < ((x92.size : Nat) : Int)))) (K false Hx80) (CHK .i64 (i79 + (1 : Int)) fun x94 => Iq81 x94 Hx80 ∧ mu82 x94 Hx80 < mu82 i79 Hx80)) (∃ (Iq98 : Int → Hp → Prop) (mu99 : Int → Hp → Nat), Iq98 (0 : Int) Hx80 ∧ ∀ (i96 : Int) (Hx97 : Hp), Iq98 i96 Hx97 → ldL (rd Hx97 bq14 3) fun _ xl101 _ => bc ((decide (i96 < ((xl101 : Nat) : Int)))) (ldL (rd Hx97 bq14 3) fun xp103 xl104 _ => IDX i96 xl104 fun k106 => NIL xp103 fun bq107 oq108 => ldS (rd Hx97 bq107 (oq108 + k106)) fun x109 => bc ((decide ((40 : Int) < ((x109.size : Nat) : Int)))) (K false Hx97) (CHK .i64 (i96 + (1 : Int)) fun x111 => Iq98 x111 Hx97 ∧ mu99 x111 Hx97 < mu99 i96 Hx97)) (ldL (rd Hx97 bq14 4) fun _ xl114 _ => bc ((decide (((xl114 : Nat) : Int) ≤ (8 : Int)))) (ldL (rd Hx97 bq14 1) fun _ xl117 _ => bc ((decide (((xl117 : Nat) : Int) ≤ (70 : Int)))) (ldL (rd Hx97 bq14 2) fun _ xl120 _ => bc ((decide (((xl120 : Nat) : Int) ≤ (10 : Int)))) (ldL (rd Hx97 bq14 3) fun _ xl123 _ => K (decide (((xl123 : Nat) : Int) ≤ (10 : Int))) Hx97) (K false Hx97)) (K false Hx97)) (K false Hx97))))
theorem centolaw18_few.vc (p1 : Int) (pp2 : Option Addr) (pl3 : Nat) (pc4 : Nat) (pp5 : Option Addr) (pl6 : Nat) (pc7 : Nat) (pp8 : Option Addr) (pl9 : Nat) (pc10 : Nat) (pp11 : Option Addr) (pl12 : Nat) (pc13 : Nat) (H : Hp) (K : Bool → Hp → Prop) : vcFun prog tab centolaw18_few.ann none Try.f7 (List.map AV.v [.agg ⟨[.int .u32 p1, .slice pp2 pl3 pc4, .slice pp5 pl6 pc7, .slice pp8 pl9 pc10, .slice pp11 pl12 pc13]⟩]) H (fun v H2 _ => liftB v fun r129 => K r129 H2) = centolaw18_few.F p1 pp2 pl3 pc4 pp5 pl6 pc7 pp8 pl9 pc10 pp11 pl12 pc13 H K := by kernel_rfl
theorem centolaw18_few.of (p1 : Int) (pp2 : Option Addr) (pl3 : Nat) (pc4 : Nat) (pp5 : Option Addr) (pl6 : Nat) (pc7 : Nat) (pp8 : Option Addr) (pl9 : Nat) (pc10 : Nat) (pp11 : Option Addr) (pl12 : Nat) (pc13 : Nat) {H : Hp} {K : Bool → Hp → Prop} (h : centolaw18_few.F p1 pp2 pl3 pc4 pp5 pl6 pc7 pp8 pl9 pc10 pp11 pl12 pc13 H K) : centolaw18_few.C p1 pp2 pl3 pc4 pp5 pl6 pc7 pp8 pl9 pc10 pp11 pl12 pc13 H K := CallH_of_vc mix tabOk Try.func7 (by kernel_rfl) ((centolaw18_few.vc p1 pp2 pl3 pc4 pp5 pl6 pc7 pp8 pl9 pc10 pp11 pl12 pc13 H K).mpr h)
-- cento/codec.Put (8)
def codec_Put.ann : Ann := { loops := [], pars := [] }
def codec_Put.F (p1 : Int) (pp2 : Option Addr) (pl3 : Nat) (pc4 : Nat) (pp5 : Option Addr) (pl6 : Nat) (pc7 : Nat) (pp8 : Option Addr) (pl9 : Nat) (pc10 : Nat) (pp11 : Option Addr) (pl12 : Nat) (pc13 : Nat) (H : Hp) (K : ByteArray → Int → Hp → Prop) : Prop :=
  NEW H [.int .u32 p1, .slice pp2 pl3 pc4, .slice pp5 pl6 pc7, .slice pp8 pl9 pc10, .slice pp11 pl12 pc13] fun bq14 Hx15 => ldI .u32 (rd Hx15 bq14 0) fun x16 => ldL (rd Hx15 bq14 1) fun xp17 xl18 xc19 => ldL (rd Hx15 bq14 2) fun xp20 xl21 xc22 => ldL (rd Hx15 bq14 3) fun xp23 xl24 xc25 => ldL (rd Hx15 bq14 4) fun xp26 xl27 xc28 => patch_Is.C x16 xp17 xl18 xc19 xp20 xl21 xc22 xp23 xl24 xc25 xp26 xl27 xc28 Hx15 fun r29 Hx30 => bc ((!r29)) (K (bs []) (10 : Int) Hx30) (ldI .u32 (rd Hx30 bq14 0) fun x46 => ldL (rd Hx30 bq14 1) fun xp47 xl48 xc49 => ldL (rd Hx30 bq14 2) fun xp50 xl51 xc52 => ldL (rd Hx30 bq14 3) fun xp53 xl54 xc55 => ldL (rd Hx30 bq14 4) fun xp56 xl57 xc58 => codec_id.C x46 Hx30 fun r59 Hx60 => rd Hx60 bq14 4 = some (.slice xp56 xl57 xc58) ∧ (rd Hx60 bq14 3 = some (.slice xp53 xl54 xc55) ∧ (rd Hx60 bq14 2 = some (.slice xp50 xl51 xc52) ∧ (rd Hx60 bq14 1 = some (.slice xp47 xl48 xc49) ∧ (codec_IDs.C xp47 xl48 xc49 Hx60 fun r62 Hx63 => rd Hx63 bq14 4 = some (.slice xp56 xl57 xc58) ∧ (rd Hx63 bq14 3 = some (.slice xp53 xl54 xc55) ∧ (rd Hx63 bq14 2 = some (.slice xp50 xl51 xc52) ∧ (((r59.size + r62.size : Nat) : Int) ≤ 9223372036854775807 ∧ (codec_Texts.C xp50 xl51 xc52 Hx63 fun r67 Hx68 => rd Hx68 bq14 4 = some (.slice xp56 xl57 xc58) ∧ (rd Hx68 bq14 3 = some (.slice xp53 xl54 xc55) ∧ ((((r59 ++ r62).size + r67.size : Nat) : Int) ≤ 9223372036854775807 ∧ (codec_Texts.C xp53 xl54 xc55 Hx68 fun r72 Hx73 => rd Hx73 bq14 4 = some (.slice xp56 xl57 xc58) ∧ (((((r59 ++ r62) ++ r67).size + r72.size : Nat) : Int) ≤ 9223372036854775807 ∧ (codec_row_api_Hunk.C xp56 xl57 xc58 (.func (.func 19) ⟨[]⟩ ⟨[]⟩) Hx73 fun r77 Hx78 => (((((r59 ++ r62) ++ r67) ++ r72).size + r77.size : Nat) : Int) ≤ 9223372036854775807 ∧ (K ((((r59 ++ r62) ++ r67) ++ r72) ++ r77) (0 : Int) Hx78)))))))))))))))
theorem codec_Put.vc (p1 : Int) (pp2 : Option Addr) (pl3 : Nat) (pc4 : Nat) (pp5 : Option Addr) (pl6 : Nat) (pc7 : Nat) (pp8 : Option Addr) (pl9 : Nat) (pc10 : Nat) (pp11 : Option Addr) (pl12 : Nat) (pc13 : Nat) (H : Hp) (K : ByteArray → Int → Hp → Prop) : vcFun prog tab codec_Put.ann none Try.f8 (List.map AV.v [.agg ⟨[.int .u32 p1, .slice pp2 pl3 pc4, .slice pp5 pl6 pc7, .slice pp8 pl9 pc10, .slice pp11 pl12 pc13]⟩]) H (fun v H2 _ => tupV v fun vs => d2 vs fun wv0 wv1 => liftS wv0 fun r85 => liftI .i64 wv1 fun r86 => K r85 r86 H2) = codec_Put.F p1 pp2 pl3 pc4 pp5 pl6 pc7 pp8 pl9 pc10 pp11 pl12 pc13 H K := by kernel_rfl
theorem codec_Put.of (p1 : Int) (pp2 : Option Addr) (pl3 : Nat) (pc4 : Nat) (pp5 : Option Addr) (pl6 : Nat) (pc7 : Nat) (pp8 : Option Addr) (pl9 : Nat) (pc10 : Nat) (pp11 : Option Addr) (pl12 : Nat) (pc13 : Nat) {H : Hp} {K : ByteArray → Int → Hp → Prop} (h : codec_Put.F p1 pp2 pl3 pc4 pp5 pl6 pc7 pp8 pl9 pc10 pp11 pl12 pc13 H K) : codec_Put.C p1 pp2 pl3 pc4 pp5 pl6 pc7 pp8 pl9 pc10 pp11 pl12 pc13 H K := CallH_of_vc mix tabOk Try.func8 (by kernel_rfl) ((codec_Put.vc p1 pp2 pl3 pc4 pp5 pl6 pc7 pp8 pl9 pc10 pp11 pl12 pc13 H K).mpr h)
-- cento/codec.Get (9)
def codec_Get.ann : Ann := { loops := [], pars := [] }
def codec_Get.F (bq1 : ByteArray) (H : Hp) (K : Int → Option Addr → Nat → Nat → Option Addr → Nat → Nat → Option Addr → Nat → Nat → Option Addr → Nat → Nat → ByteArray → Int → Hp → Prop) : Prop :=
  NEW H [.int .u32 (0 : Int), .slice none 0 0, .slice none 0 0, .slice none 0 0, .slice none 0 0] fun bq2 Hx3 => NEW Hx3 [.string bq1, .bool false] fun bq4 Hx5 => codec_Reader_ID.C (some ⟨bq4, 0, none⟩) Hx5 fun r6 Hx7 => codec_Reader_IDs.C (some ⟨bq4, 0, none⟩) Hx7 fun rp9 rl10 rc11 Hx12 => codec_Reader_Paths.C (some ⟨bq4, 0, none⟩) Hx12 fun rp14 rl15 rc16 Hx17 => codec_Reader_Paths.C (some ⟨bq4, 0, none⟩) Hx17 fun rp19 rl20 rc21 Hx22 => codec_Row_api_Hunk.C (some ⟨bq4, 0, none⟩) (6 : Int) (.func (.func 24) ⟨[.pointer (some ⟨bq4, 0, none⟩)]⟩ ⟨[]⟩) Hx22 fun rp24 rl25 rc26 Hx27 => NEW Hx27 [.int .u32 (0 : Int), .slice none 0 0, .slice none 0 0, .slice none 0 0, .slice none 0 0] fun bq31 Hx32 => ST Hx32 bq31 0 (.int .u32 r6) fun Hx33 => ST Hx33 bq31 1 (.slice rp9 rl10 rc11) fun Hx34 => ST Hx34 bq31 2 (.slice rp14 rl15 rc16) fun Hx35 => ST Hx35 bq31 3 (.slice rp19 rl20 rc21) fun Hx36 => ST Hx36 bq31 4 (.slice rp24 rl25 rc26) fun Hx37 => ldB (rd Hx37 bq4 1) fun x38 => bc (x38) (ST Hx37 bq2 0 (.int .u32 (0 : Int)) fun Hx39 => ST Hx39 bq2 1 (.slice none 0 0) fun Hx40 => ST Hx40 bq2 2 (.slice none 0 0) fun Hx41 => ST Hx41 bq2 3 (.slice none 0 0) fun Hx42 => ST Hx42 bq2 4 (.slice none 0 0) fun Hx43 => ldI .u32 (rd Hx43 bq2 0) fun r44 => ldL (rd Hx43 bq2 1) fun rp45 rl46 rc47 => ldL (rd Hx43 bq2 2) fun rp48 rl49 rc50 => ldL (rd Hx43 bq2 3) fun rp51 rl52 rc53 => ldL (rd Hx43 bq2 4) fun rp54 rl55 rc56 => K r44 rp45 rl46 rc47 rp48 rl49 rc50 rp51 rl52 rc53 rp54 rl55 rc56 bq1 (26 : Int) Hx43) (ldI .u32 (rd Hx37 bq31 0) fun x72 => ldL (rd Hx37 bq31 1) fun xp73 xl74 xc75 => ldL (rd Hx37 bq31 2) fun xp76 xl77 xc78 => ldL (rd Hx37 bq31 3) fun xp79 xl80 xc81 => ldL (rd Hx37 bq31 4) fun xp82 xl83 xc84 => patch_Is.C x72 xp73 xl74 xc75 xp76 xl77 xc78 xp79 xl80 xc81 xp82 xl83 xc84 Hx37 fun r85 Hx86 => bc ((!r85)) (ST Hx86 bq2 0 (.int .u32 (0 : Int)) fun Hx100 => ST Hx100 bq2 1 (.slice none 0 0) fun Hx101 => ST Hx101 bq2 2 (.slice none 0 0) fun Hx102 => ST Hx102 bq2 3 (.slice none 0 0) fun Hx103 => ST Hx103 bq2 4 (.slice none 0 0) fun Hx104 => ldI .u32 (rd Hx104 bq2 0) fun r105 => ldL (rd Hx104 bq2 1) fun rp106 rl107 rc108 => ldL (rd Hx104 bq2 2) fun rp109 rl110 rc111 => ldL (rd Hx104 bq2 3) fun rp112 rl113 rc114 => ldL (rd Hx104 bq2 4) fun rp115 rl116 rc117 => K r105 rp106 rl107 rc108 rp109 rl110 rc111 rp112 rl113 rc114 rp115 rl116 rc117 bq1 (26 : Int) Hx104) (ldI .u32 (rd Hx86 bq31 0) fun x133 => ldL (rd Hx86 bq31 1) fun xp134 xl135 xc136 => ldL (rd Hx86 bq31 2) fun xp137 xl138 xc139 => ldL (rd Hx86 bq31 3) fun xp140 xl141 xc142 => ldL (rd Hx86 bq31 4) fun xp143 xl144 xc145 => ldS (rd Hx86 bq4 0) fun x146 => ST Hx86 bq2 0 (.int .u32 x133) fun Hx147 => ST Hx147 bq2 1 (.slice xp134 xl135 xc136) fun Hx148 => ST Hx148 bq2 2 (.slice xp137 xl138 xc139) fun Hx149 => ST Hx149 bq2 3 (.slice xp140 xl141 xc142) fun Hx150 => ST Hx150 bq2 4 (.slice xp143 xl144 xc145) fun Hx151 => rd Hx151 bq4 0 = some (.string x146) ∧ (ldI .u32 (rd Hx151 bq2 0) fun r152 => ldL (rd Hx151 bq2 1) fun rp153 rl154 rc155 => ldL (rd Hx151 bq2 2) fun rp156 rl157 rc158 => ldL (rd Hx151 bq2 3) fun rp159 rl160 rc161 => ldL (rd Hx151 bq2 4) fun rp162 rl163 rc164 => K r152 rp153 rl154 rc155 rp156 rl157 rc158 rp159 rl160 rc161 rp162 rl163 rc164 x146 (0 : Int) Hx151)))
theorem codec_Get.vc (bq1 : ByteArray) (H : Hp) (K : Int → Option Addr → Nat → Nat → Option Addr → Nat → Nat → Option Addr → Nat → Nat → Option Addr → Nat → Nat → ByteArray → Int → Hp → Prop) : vcFun prog tab codec_Get.ann none Try.f9 (List.map AV.v [.string bq1]) H (fun v H2 _ => tupV v fun vs => d3 vs fun wv0 wv1 wv2 => aggV wv0 fun cs => d5 cs fun wwv00 wwv01 wwv02 wwv03 wwv04 => liftI .u32 wwv00 fun r180 => liftL wwv01 fun rp181 rl182 rc183 => liftL wwv02 fun rp184 rl185 rc186 => liftL wwv03 fun rp187 rl188 rc189 => liftL wwv04 fun rp190 rl191 rc192 => liftS wv1 fun r193 => liftI .i64 wv2 fun r194 => K r180 rp181 rl182 rc183 rp184 rl185 rc186 rp187 rl188 rc189 rp190 rl191 rc192 r193 r194 H2) = codec_Get.F bq1 H K := by kernel_rfl
theorem codec_Get.of (bq1 : ByteArray) {H : Hp} {K : Int → Option Addr → Nat → Nat → Option Addr → Nat → Nat → Option Addr → Nat → Nat → Option Addr → Nat → Nat → ByteArray → Int → Hp → Prop} (h : codec_Get.F bq1 H K) : codec_Get.C bq1 H K := CallH_of_vc mix tabOk Try.func9 (by kernel_rfl) ((codec_Get.vc bq1 H K).mpr h)
-- cento/centoref12.Same (10)
def centoref12_Same.ann : Ann := { loops := [(0, [(5, .one (.int .i64))])], pars := [] }
def centoref12_Same.k1 (K : Bool → Hp → Prop) (bq27 : Nat) (bq29 : Nat) (Hx86 : Hp) : Prop :=
  ∃ (Iq89 : Int → Hp → Prop) (mu90 : Int → Hp → Nat), Iq89 (0 : Int) Hx86 ∧ ∀ (i87 : Int) (Hx88 : Hp), Iq89 i87 Hx88 → ldL (rd Hx88 bq27 4) fun _ xl92 _ => bc ((decide (i87 < ((xl92 : Nat) : Int)))) (ldL (rd Hx88 bq27 4) fun xp94 xl95 _ => IDX i87 xl95 fun k97 => NIL xp94 fun bq98 oq99 => ldS (rd Hx88 bq98 (oq99 + (k97 * 4))) fun x100 => ldL (rd Hx88 bq98 ((oq99 + (k97 * 4)) + 1)) fun xp101 xl102 xc103 => ldL (rd Hx88 bq98 (((oq99 + (k97 * 4)) + 1) + 1)) fun xp104 xl105 xc106 => ldL (rd Hx88 bq98 ((((oq99 + (k97 * 4)) + 1) + 1) + 1)) fun xp107 xl108 xc109 => ldL (rd Hx88 bq29 4) fun xp110 xl111 _ => IDX i87 xl111 fun k113 => NIL xp110 fun bq114 oq115 => ldS (rd Hx88 bq114 (oq115 + (k113 * 4))) fun x116 => ldL (rd Hx88 bq114 ((oq115 + (k113 * 4)) + 1)) fun xp117 xl118 xc119 => ldL (rd Hx88 bq114 (((oq115 + (k113 * 4)) + 1) + 1)) fun xp120 xl121 xc122 => ldL (rd Hx88 bq114 ((((oq115 + (k113 * 4)) + 1) + 1) + 1)) fun xp123 xl124 xc125 => centoref12_SameHunk.C x100 xp101 xl102 xc103 xp104 xl105 xc106 xp107 xl108 xc109 x116 xp117 xl118 xc119 xp120 xl121 xc122 xp123 xl124 xc125 Hx88 fun r126 Hx127 => bc ((!r126)) (K false Hx127) (CHK .i64 (i87 + (1 : Int)) fun x149 => Iq89 x149 Hx127 ∧ mu90 x149 Hx127 < mu90 i87 Hx88)) (K true Hx88)
def centoref12_Same.F (a1 : Int) (ap2 : Option Addr) (al3 : Nat) (ac4 : Nat) (ap5 : Option Addr) (al6 : Nat) (ac7 : Nat) (ap8 : Option Addr) (al9 : Nat) (ac10 : Nat) (ap11 : Option Addr) (al12 : Nat) (ac13 : Nat) (bq14 : Int) (bp15 : Option Addr) (bl16 : Nat) (bcq17 : Nat) (bp18 : Option Addr) (bl19 : Nat) (bcq20 : Nat) (bp21 : Option Addr) (bl22 : Nat) (bcq23 : Nat) (bp24 : Option Addr) (bl25 : Nat) (bcq26 : Nat) (H : Hp) (K : Bool → Hp → Prop) : Prop :=
  NEW H [.int .u32 a1, .slice ap2 al3 ac4, .slice ap5 al6 ac7, .slice ap8 al9 ac10, .slice ap11 al12 ac13] fun bq27 Hx28 => NEW Hx28 [.int .u32 bq14, .slice bp15 bl16 bcq17, .slice bp18 bl19 bcq20, .slice bp21 bl22 bcq23, .slice bp24 bl25 bcq26] fun bq29 Hx30 => ldI .u32 (rd Hx30 bq27 0) fun x31 => ldI .u32 (rd Hx30 bq29 0) fun x32 => bc ((decide (¬ x31 = x32))) (K false Hx30) (ldL (rd Hx30 bq27 1) fun xp34 xl35 xc36 => ldL (rd Hx30 bq29 1) fun xp37 xl38 xc39 => centoref12_SameIDs.C xp34 xl35 xc36 xp37 xl38 xc39 Hx30 fun r40 Hx41 => bc ((!r40)) (K false Hx41) (ldL (rd Hx41 bq27 2) fun xp49 xl50 xc51 => ldL (rd Hx41 bq29 2) fun xp52 xl53 xc54 => centoref12_sameTexts.C xp49 xl50 xc51 xp52 xl53 xc54 Hx41 fun r55 Hx56 => bc ((!r55)) (K false Hx56) (ldL (rd Hx56 bq27 3) fun xp64 xl65 xc66 => ldL (rd Hx56 bq29 3) fun xp67 xl68 xc69 => centoref12_sameTexts.C xp64 xl65 xc66 xp67 xl68 xc69 Hx56 fun r70 Hx71 => bc ((!r70)) (K false Hx71) (ldL (rd Hx71 bq27 4) fun _ xl80 _ => ldL (rd Hx71 bq29 4) fun _ xl83 _ => bc ((decide (¬ ((xl80 : Nat) : Int) = ((xl83 : Nat) : Int)))) (K false Hx71) (centoref12_Same.k1 K bq27 bq29 Hx71)))))
theorem centoref12_Same.vc (a1 : Int) (ap2 : Option Addr) (al3 : Nat) (ac4 : Nat) (ap5 : Option Addr) (al6 : Nat) (ac7 : Nat) (ap8 : Option Addr) (al9 : Nat) (ac10 : Nat) (ap11 : Option Addr) (al12 : Nat) (ac13 : Nat) (bq14 : Int) (bp15 : Option Addr) (bl16 : Nat) (bcq17 : Nat) (bp18 : Option Addr) (bl19 : Nat) (bcq20 : Nat) (bp21 : Option Addr) (bl22 : Nat) (bcq23 : Nat) (bp24 : Option Addr) (bl25 : Nat) (bcq26 : Nat) (H : Hp) (K : Bool → Hp → Prop) : vcFun prog tab centoref12_Same.ann none Try.f10 (List.map AV.v [.agg ⟨[.int .u32 a1, .slice ap2 al3 ac4, .slice ap5 al6 ac7, .slice ap8 al9 ac10, .slice ap11 al12 ac13]⟩, .agg ⟨[.int .u32 bq14, .slice bp15 bl16 bcq17, .slice bp18 bl19 bcq20, .slice bp21 bl22 bcq23, .slice bp24 bl25 bcq26]⟩]) H (fun v H2 _ => liftB v fun r152 => K r152 H2) = centoref12_Same.F a1 ap2 al3 ac4 ap5 al6 ac7 ap8 al9 ac10 ap11 al12 ac13 bq14 bp15 bl16 bcq17 bp18 bl19 bcq20 bp21 bl22 bcq23 bp24 bl25 bcq26 H K := by kernel_rfl
theorem centoref12_Same.of (a1 : Int) (ap2 : Option Addr) (al3 : Nat) (ac4 : Nat) (ap5 : Option Addr) (al6 : Nat) (ac7 : Nat) (ap8 : Option Addr) (al9 : Nat) (ac10 : Nat) (ap11 : Option Addr) (al12 : Nat) (ac13 : Nat) (bq14 : Int) (bp15 : Option Addr) (bl16 : Nat) (bcq17 : Nat) (bp18 : Option Addr) (bl19 : Nat) (bcq20 : Nat) (bp21 : Option Addr) (bl22 : Nat) (bcq23 : Nat) (bp24 : Option Addr) (bl25 : Nat) (bcq26 : Nat) {H : Hp} {K : Bool → Hp → Prop} (h : centoref12_Same.F a1 ap2 al3 ac4 ap5 al6 ac7 ap8 al9 ac10 ap11 al12 ac13 bq14 bp15 bl16 bcq17 bp18 bl19 bcq20 bp21 bl22 bcq23 bp24 bl25 bcq26 H K) : centoref12_Same.C a1 ap2 al3 ac4 ap5 al6 ac7 ap8 al9 ac10 ap11 al12 ac13 bq14 bp15 bl16 bcq17 bp18 bl19 bcq20 bp21 bl22 bcq23 bp24 bl25 bcq26 H K := CallH_of_vc mix tabOk Try.func10 (by kernel_rfl) ((centoref12_Same.vc a1 ap2 al3 ac4 ap5 al6 ac7 ap8 al9 ac10 ap11 al12 ac13 bq14 bp15 bl16 bcq17 bp18 bl19 bcq20 bp21 bl22 bcq23 bp24 bl25 bcq26 H K).mpr h)
-- cento/codec.Num (11)
def codec_Num.ann : Ann := { loops := [(0, [(0, .one (.int .i64)), (3, .one .slice)])], pars := [] }
def codec_Num.F (n1 : Int) (H : Hp) (K : ByteArray → Hp → Prop) : Prop :=
  ∃ (Iq7 : Int → Option Addr → Nat → Nat → Hp → Prop) (mu8 : Int → Option Addr → Nat → Nat → Hp → Nat), Iq7 (min (max n1 (0 : Int)) (2147483647 : Int)) none 0 0 H ∧ ∀ (n2 : Int) (bp3 : Option Addr) (bl4 : Nat) (bcq5 : Nat) (Hx6 : Hp), Iq7 n2 bp3 bl4 bcq5 Hx6 → bc ((decide ((127 : Int) < n2))) (NEW Hx6 ([.int .u8 (IntKind.wrap .u8 (ior .i64 (iand .i64 n2 (127 : Int)) (128 : Int)))] ++ [tyM 5 0 0]) fun bq9 Hx10 => APP Hx10 te_uint8 bp3 bl4 bcq5 (.slice (some ⟨bq9, 0, none⟩) 1 1) fun xp11 xl12 xc13 Hx14 => 0 ≤ (7 : Int) ∧ (Iq7 (ishr .i64 n2 (7 : Int)) xp11 xl12 xc13 Hx14 ∧ mu8 (ishr .i64 n2 (7 : Int)) xp11 xl12 xc13 Hx14 < mu8 n2 bp3 bl4 bcq5 Hx6)) (NEW Hx6 ([.int .u8 (IntKind.wrap .u8 n2)] ++ [tyM 5 0 0]) fun bq19 Hx20 => APP Hx20 te_uint8 bp3 bl4 bcq5 (.slice (some ⟨bq19, 0, none⟩) 1 1) fun xp21 xl22 _ Hx24 => BTS Hx24 xp21 xl22 fun x25 => K x25 Hx24)
theorem codec_Num.vc (n1 : Int) (H : Hp) (K : ByteArray → Hp → Prop) : vcFun prog tab codec_Num.ann none Try.f11 (List.map AV.v [.int .i64 n1]) H (fun v H2 _ => liftS v fun r27 => K r27 H2) = codec_Num.F n1 H K := by kernel_rfl
theorem codec_Num.of (n1 : Int) {H : Hp} {K : ByteArray → Hp → Prop} (h : codec_Num.F n1 H K) : codec_Num.C n1 H K := CallH_of_vc mix tabOk Try.func11 (by kernel_rfl) ((codec_Num.vc n1 H K).mpr h)
-- cento/codec.Digit (12)
def codec_Digit.ann : Ann := { loops := [(0, [(5, .one (.int .i64)), (11, .one (.int .i64))])], pars := [] }
def codec_Digit.F (bq1 : ByteArray) (H : Hp) (K : Int → ByteArray → Bool → Hp → Prop) : Prop :=
  ∃ (Iq5 : Int → Int → Hp → Prop) (mu6 : Int → Int → Hp → Nat), Iq5 (0 : Int) (0 : Int) H ∧ ∀ (n2 : Int) (t3 : Int) (Hx4 : Hp), Iq5 n2 t3 Hx4 → bc ((decide (t3 < (min ((bq1.size : Nat) : Int) (5 : Int))))) (IDX t3 bq1.size fun k7 => CHK .i64 (iand .u8 ((bq1.data.toList.getD k7 0).toNat : Int) (127 : Int)) fun x8 => CHK .i64 ((7 : Int) * t3) fun x9 => 0 ≤ x9 ∧ (bc ((decide (¬ (iand .u8 ((bq1.data.toList.getD k7 0).toNat : Int) (128 : Int)) = (0 : Int)))) (CHK .i64 (t3 + (1 : Int)) fun x10 => Iq5 (ior .i64 n2 (ishl .i64 x8 x9)) x10 Hx4 ∧ mu6 (ior .i64 n2 (ishl .i64 x8 x9)) x10 Hx4 < mu6 n2 t3 Hx4) (bc ((decide (((bq1.data.toList.getD k7 0).toNat : Int) = (0 : Int)))) (bc ((decide ((0 : Int) < t3))) (K (0 : Int) bq1 false Hx4) (bc ((decide ((2147483647 : Int) < (ior .i64 n2 (ishl .i64 x8 x9))))) (K (0 : Int) bq1 false Hx4) (CHK .i64 (t3 + (1 : Int)) fun x19 => BND (some x19) none bq1.size bq1.size fun j20 k21 => K (ior .i64 n2 (ishl .i64 x8 x9)) (bq1.extract j20 k21) true Hx4))) (bc ((decide ((2147483647 : Int) < (ior .i64 n2 (ishl .i64 x8 x9))))) (K (0 : Int) bq1 false Hx4) (CHK .i64 (t3 + (1 : Int)) fun x28 => BND (some x28) none bq1.size bq1.size fun j29 k30 => K (ior .i64 n2 (ishl .i64 x8 x9)) (bq1.extract j29 k30) true Hx4))))) (K (0 : Int) bq1 false Hx4)
theorem codec_Digit.vc (bq1 : ByteArray) (H : Hp) (K : Int → ByteArray → Bool → Hp → Prop) : vcFun prog tab codec_Digit.ann none Try.f12 (List.map AV.v [.string bq1]) H (fun v H2 _ => tupV v fun vs => d3 vs fun wv0 wv1 wv2 => liftI .i64 wv0 fun r37 => liftS wv1 fun r38 => liftB wv2 fun r39 => K r37 r38 r39 H2) = codec_Digit.F bq1 H K := by kernel_rfl
theorem codec_Digit.of (bq1 : ByteArray) {H : Hp} {K : Int → ByteArray → Bool → Hp → Prop} (h : codec_Digit.F bq1 H K) : codec_Digit.C bq1 H K := CallH_of_vc mix tabOk Try.func12 (by kernel_rfl) ((codec_Digit.vc bq1 H K).mpr h)
-- cento/codec.Text (13)
def codec_Text.ann : Ann := { loops := [], pars := [] }
def codec_Text.F (s1 : ByteArray) (H : Hp) (K : ByteArray → Hp → Prop) : Prop :=
  codec_Num.C ((s1.size : Nat) : Int) H fun r2 Hx3 => ((r2.size + s1.size : Nat) : Int) ≤ 9223372036854775807 ∧ (K (r2 ++ s1) Hx3)
theorem codec_Text.vc (s1 : ByteArray) (H : Hp) (K : ByteArray → Hp → Prop) : vcFun prog tab codec_Text.ann none Try.f13 (List.map AV.v [.string s1]) H (fun v H2 _ => liftS v fun r6 => K r6 H2) = codec_Text.F s1 H K := by kernel_rfl
theorem codec_Text.of (s1 : ByteArray) {H : Hp} {K : ByteArray → Hp → Prop} (h : codec_Text.F s1 H K) : codec_Text.C s1 H K := CallH_of_vc mix tabOk Try.func13 (by kernel_rfl) ((codec_Text.vc s1 H K).mpr h)
-- cento/patch.Is (14)
def patch_Is.ann : Ann := { loops := [(0, [(3, .one (.int .i64)), (4, .one .str), (40, .one (.int .i64))])], pars := [] }
def patch_Is.k2 (Hx86 : Hp) (Iq87 : Int → ByteArray → Int → Hp → Prop) (K : Bool → Hp → Prop) (bq102 : Nat) (fromq83 : Int) (last84 : ByteArray) (mu88 : Int → ByteArray → Int → Hp → Nat) (t85 : Int) (t138 : Bool) (Hx139 : Hp) : Prop :=
  bc (t138) (ldL (rd Hx139 bq102 1) fun _ xl141 _ => CHK .i64 (fromq83 + ((xl141 : Nat) : Int)) fun x143 => ldS (rd Hx139 bq102 0) fun x144 => CHK .i64 (t85 + (1 : Int)) fun x145 => Iq87 x143 x144 x145 Hx139 ∧ mu88 x143 x144 x145 Hx139 < mu88 fromq83 last84 t85 Hx86) (K false Hx139)
def patch_Is.k1 (K : Bool → Hp → Prop) (bq14 : Nat) (Hx69 : Hp) : Prop :=
  ldL (rd Hx69 bq14 2) fun xp70 xl71 xc72 => slices_ContainsFunc_string_string.C xp70 xl71 xc72 (.func (.func 31) ⟨[]⟩ ⟨[.pointer (some ⟨bq14, 0, none⟩)]⟩) Hx69 fun r73 Hx74 => bc (r73) (K false Hx74) (ldL (rd Hx74 bq14 4) fun xp80 xl81 _ => ∃ (Iq87 : Int → ByteArray → Int → Hp → Prop) (mu88 : Int → ByteArray → Int → Hp → Nat), Iq87 (0 : Int) (bs []) (0 : Int) Hx74 ∧ ∀ (fromq83 : Int) (last84 : ByteArray) (t85 : Int) (Hx86 : Hp), Iq87 fromq83 last84 t85 Hx86 → bc ((decide (t85 < ((xl81 : Nat) : Int)))) (IDX t85 xl81 fun k89 => NIL xp80 fun bq90 oq91 => ldS (rd Hx86 bq90 (oq91 + (k89 * 4))) fun x92 => ldL (rd Hx86 bq90 ((oq91 + (k89 * 4)) + 1)) fun xp93 xl94 xc95 => ldL (rd Hx86 bq90 (((oq91 + (k89 * 4)) + 1) + 1)) fun xp96 xl97 xc98 => ldL (rd Hx86 bq90 ((((oq91 + (k89 * 4)) + 1) + 1) + 1)) fun xp99 xl100 xc101 => NEW Hx86 [.string .empty, .slice none 0 0, .slice none 0 0, .slice none 0 0] fun bq102 Hx103 => ST Hx103 bq102 0 (.string x92) fun Hx104 => ST Hx104 bq102 1 (.slice xp93 xl94 xc95) fun Hx105 => ST Hx105 bq102 2 (.slice xp96 xl97 xc98) fun Hx106 => ST Hx106 bq102 3 (.slice xp99 xl100 xc101) fun Hx107 => ldS (rd Hx107 bq102 0) fun x108 => patch_IsPath.C x108 Hx107 fun r109 Hx110 => bc (r109) (ldS (rd Hx110 bq102 0) fun x112 => bc ((!((Op.bytesLess x112.toList last84.toList) || decide (x112 = last84)))) (ldI .u32 (rd Hx110 bq14 0) fun x113 => ldS (rd Hx110 bq102 0) fun x114 => ldL (rd Hx110 bq102 1) fun xp115 xl116 xc117 => ldL (rd Hx110 bq102 2) fun xp118 xl119 xc120 => ldL (rd Hx110 bq102 3) fun xp121 xl122 xc123 => patch_isHunk.C x113 x114 xp115 xl116 xc117 xp118 xl119 xc120 xp121 xl122 xc123 fromq83 Hx110 fun r124 Hx125 => patch_Is.k2 Hx86 Iq87 K bq102 fromq83 last84 mu88 t85 r124 Hx125) (patch_Is.k2 Hx86 Iq87 K bq102 fromq83 last84 mu88 t85 false Hx110)) (patch_Is.k2 Hx86 Iq87 K bq102 fromq83 last84 mu88 t85 false Hx110)) (K true Hx86))
def patch_Is.F (p1 : Int) (pp2 : Option Addr) (pl3 : Nat) (pc4 : Nat) (pp5 : Option Addr) (pl6 : Nat) (pc7 : Nat) (pp8 : Option Addr) (pl9 : Nat) (pc10 : Nat) (pp11 : Option Addr) (pl12 : Nat) (pc13 : Nat) (H : Hp) (K : Bool → Hp → Prop) : Prop :=
  NEW H [.int .u32 p1, .slice pp2 pl3 pc4, .slice pp5 pl6 pc7, .slice pp8 pl9 pc10, .slice pp11 pl12 pc13] fun bq14 Hx15 => ldI .u32 (rd Hx15 bq14 0) fun x16 => bc ((decide (x16 = (0 : Int)))) (K false Hx15) (ldL (rd Hx15 bq14 4) fun _ xl19 _ => bc ((decide ((6 : Int) < ((xl19 : Nat) : Int)))) (K false Hx15) (ldL (rd Hx15 bq14 2) fun xp22 xl23 xc24 => patch_paths.C xp22 xl23 xc24 Hx15 fun r25 Hx26 => bc ((!r25)) (K false Hx26) (ldL (rd Hx26 bq14 3) fun xp31 xl32 xc33 => patch_paths.C xp31 xl32 xc33 Hx26 fun r34 Hx35 => bc ((!r34)) (K false Hx35) (ldI .u32 (rd Hx35 bq14 0) fun x40 => ldL (rd Hx35 bq14 1) fun xp41 xl42 xc43 => ldL (rd Hx35 bq14 2) fun xp44 xl45 xc46 => ldL (rd Hx35 bq14 3) fun xp47 xl48 xc49 => ldL (rd Hx35 bq14 4) fun xp50 xl51 xc52 => patch_deps.C x40 xp41 xl42 xc43 xp44 xl45 xc46 xp47 xl48 xc49 xp50 xl51 xc52 Hx35 fun r53 Hx54 => bc ((!r53)) (K false Hx54) (patch_Is.k1 K bq14 Hx54)))))
theorem patch_Is.vc (p1 : Int) (pp2 : Option Addr) (pl3 : Nat) (pc4 : Nat) (pp5 : Option Addr) (pl6 : Nat) (pc7 : Nat) (pp8 : Option Addr) (pl9 : Nat) (pc10 : Nat) (pp11 : Option Addr) (pl12 : Nat) (pc13 : Nat) (H : Hp) (K : Bool → Hp → Prop) : vcFun prog tab patch_Is.ann none Try.f14 (List.map AV.v [.agg ⟨[.int .u32 p1, .slice pp2 pl3 pc4, .slice pp5 pl6 pc7, .slice pp8 pl9 pc10, .slice pp11 pl12 pc13]⟩]) H (fun v H2 _ => liftB v fun r154 => K r154 H2) = patch_Is.F p1 pp2 pl3 pc4 pp5 pl6 pc7 pp8 pl9 pc10 pp11 pl12 pc13 H K := by kernel_rfl
theorem patch_Is.of (p1 : Int) (pp2 : Option Addr) (pl3 : Nat) (pc4 : Nat) (pp5 : Option Addr) (pl6 : Nat) (pc7 : Nat) (pp8 : Option Addr) (pl9 : Nat) (pc10 : Nat) (pp11 : Option Addr) (pl12 : Nat) (pc13 : Nat) {H : Hp} {K : Bool → Hp → Prop} (h : patch_Is.F p1 pp2 pl3 pc4 pp5 pl6 pc7 pp8 pl9 pc10 pp11 pl12 pc13 H K) : patch_Is.C p1 pp2 pl3 pc4 pp5 pl6 pc7 pp8 pl9 pc10 pp11 pl12 pc13 H K := CallH_of_vc mix tabOk Try.func14 (by kernel_rfl) ((patch_Is.vc p1 pp2 pl3 pc4 pp5 pl6 pc7 pp8 pl9 pc10 pp11 pl12 pc13 H K).mpr h)
-- cento/codec.id (15)
def codec_id.ann : Ann := { loops := [], pars := [] }
def codec_id.F (x1 : Int) (H : Hp) (K : ByteArray → Hp → Prop) : Prop :=
  0 ≤ (16 : Int) ∧ (CHK .i64 (ishr .u32 x1 (16 : Int)) fun x2 => codec_Num.C x2 H fun r3 Hx4 => CHK .i64 (iand .u32 x1 (65535 : Int)) fun x6 => codec_Num.C x6 Hx4 fun r7 Hx8 => ((r3.size + r7.size : Nat) : Int) ≤ 9223372036854775807 ∧ (K (r3 ++ r7) Hx8))
theorem codec_id.vc (x1 : Int) (H : Hp) (K : ByteArray → Hp → Prop) : vcFun prog tab codec_id.ann none Try.f15 (List.map AV.v [.int .u32 x1]) H (fun v H2 _ => liftS v fun r11 => K r11 H2) = codec_id.F x1 H K := by kernel_rfl
theorem codec_id.of (x1 : Int) {H : Hp} {K : ByteArray → Hp → Prop} (h : codec_id.F x1 H K) : codec_id.C x1 H K := CallH_of_vc mix tabOk Try.func15 (by kernel_rfl) ((codec_id.vc x1 H K).mpr h)
-- cento/codec.IDs (16)
def codec_IDs.ann : Ann := { loops := [], pars := [] }
def codec_IDs.F (lp1 : Option Addr) (ll2 : Nat) (lc3 : Nat) (H : Hp) (K : ByteArray → Hp → Prop) : Prop :=
  codec_row_uint32.C lp1 ll2 lc3 (.func (.func 15) ⟨[]⟩ ⟨[]⟩) H fun r4 Hx5 => K r4 Hx5
theorem codec_IDs.vc (lp1 : Option Addr) (ll2 : Nat) (lc3 : Nat) (H : Hp) (K : ByteArray → Hp → Prop) : vcFun prog tab codec_IDs.ann none Try.f16 (List.map AV.v [.slice lp1 ll2 lc3]) H (fun v H2 _ => liftS v fun r11 => K r11 H2) = codec_IDs.F lp1 ll2 lc3 H K := by kernel_rfl
theorem codec_IDs.of (lp1 : Option Addr) (ll2 : Nat) (lc3 : Nat) {H : Hp} {K : ByteArray → Hp → Prop} (h : codec_IDs.F lp1 ll2 lc3 H K) : codec_IDs.C lp1 ll2 lc3 H K := CallH_of_vc mix tabOk Try.func16 (by kernel_rfl) ((codec_IDs.vc lp1 ll2 lc3 H K).mpr h)
-- cento/codec.Texts (17)
def codec_Texts.ann : Ann := { loops := [], pars := [] }
def codec_Texts.F (lp1 : Option Addr) (ll2 : Nat) (lc3 : Nat) (H : Hp) (K : ByteArray → Hp → Prop) : Prop :=
  codec_row_string.C lp1 ll2 lc3 (.func (.func 13) ⟨[]⟩ ⟨[]⟩) H fun r4 Hx5 => K r4 Hx5
theorem codec_Texts.vc (lp1 : Option Addr) (ll2 : Nat) (lc3 : Nat) (H : Hp) (K : ByteArray → Hp → Prop) : vcFun prog tab codec_Texts.ann none Try.f17 (List.map AV.v [.slice lp1 ll2 lc3]) H (fun v H2 _ => liftS v fun r11 => K r11 H2) = codec_Texts.F lp1 ll2 lc3 H K := by kernel_rfl
theorem codec_Texts.of (lp1 : Option Addr) (ll2 : Nat) (lc3 : Nat) {H : Hp} {K : ByteArray → Hp → Prop} (h : codec_Texts.F lp1 ll2 lc3 H K) : codec_Texts.C lp1 ll2 lc3 H K := CallH_of_vc mix tabOk Try.func17 (by kernel_rfl) ((codec_Texts.vc lp1 ll2 lc3 H K).mpr h)
-- cento/codec.row[cento/api.Hunk] (18)
def codec_row_api_Hunk.ann : Ann := { loops := [(0, [(14, .one (.int .i64))])], pars := [] }
def codec_row_api_Hunk.F (lp1 : Option Addr) (ll2 : Nat) (_lc3 : Nat) (one4 : Value) (H : Hp) (K : ByteArray → Hp → Prop) : Prop :=
  NEW H ([.pointer none, .slice none 0 0] ++ [tyM 75 0 0]) fun bq5 Hx6 => codec_Num.C ((ll2 : Nat) : Int) Hx6 fun r7 Hx8 => strings_Builder_WriteString.C (some ⟨bq5, 0, none⟩) r7 Hx8 fun _ _ Hx12 => ∃ (Iq17 : Int → Hp → Prop) (mu18 : Int → Hp → Nat), Iq17 (0 : Int) Hx12 ∧ ∀ (t15 : Int) (Hx16 : Hp), Iq17 t15 Hx16 → bc ((decide (t15 < ((ll2 : Nat) : Int)))) (IDX t15 ll2 fun k19 => NIL lp1 fun bq20 oq21 => ldS (rd Hx16 bq20 (oq21 + (k19 * 4))) fun x22 => ldL (rd Hx16 bq20 ((oq21 + (k19 * 4)) + 1)) fun xp23 xl24 xc25 => ldL (rd Hx16 bq20 (((oq21 + (k19 * 4)) + 1) + 1)) fun xp26 xl27 xc28 => ldL (rd Hx16 bq20 ((((oq21 + (k19 * 4)) + 1) + 1) + 1)) fun xp29 xl30 xc31 => NEW Hx16 [.string .empty, .slice none 0 0, .slice none 0 0, .slice none 0 0] fun bq32 Hx33 => ST Hx33 bq32 0 (.string x22) fun Hx34 => ST Hx34 bq32 1 (.slice xp23 xl24 xc25) fun Hx35 => ST Hx35 bq32 2 (.slice xp26 xl27 xc28) fun Hx36 => ST Hx36 bq32 3 (.slice xp29 xl30 xc31) fun Hx37 => ldS (rd Hx37 bq32 0) fun x38 => ldL (rd Hx37 bq32 1) fun xp39 xl40 xc41 => ldL (rd Hx37 bq32 2) fun xp42 xl43 xc44 => ldL (rd Hx37 bq32 3) fun xp45 xl46 xc47 => CallV prog one4 [.agg ⟨[.string x38, .slice xp39 xl40 xc41, .slice xp42 xl43 xc44, .slice xp45 xl46 xc47]⟩] Hx37 fun v Hx49 => liftS v fun r48 => strings_Builder_WriteString.C (some ⟨bq5, 0, none⟩) r48 Hx49 fun _ _ Hx52 => CHK .i64 (t15 + (1 : Int)) fun x55 => Iq17 x55 Hx52 ∧ mu18 x55 Hx52 < mu18 t15 Hx16) (strings_Builder_String.C (some ⟨bq5, 0, none⟩) Hx16 fun r57 Hx58 => K r57 Hx58)
theorem codec_row_api_Hunk.vc (lp1 : Option Addr) (ll2 : Nat) (lc3 : Nat) (one4 : Value) (H : Hp) (K : ByteArray → Hp → Prop) : vcFun prog tab codec_row_api_Hunk.ann none Try.f18 (List.map AV.v [.slice lp1 ll2 lc3, one4]) H (fun v H2 _ => liftS v fun r61 => K r61 H2) = codec_row_api_Hunk.F lp1 ll2 lc3 one4 H K := by kernel_rfl
theorem codec_row_api_Hunk.of (lp1 : Option Addr) (ll2 : Nat) (lc3 : Nat) (one4 : Value) {H : Hp} {K : ByteArray → Hp → Prop} (h : codec_row_api_Hunk.F lp1 ll2 lc3 one4 H K) : codec_row_api_Hunk.C lp1 ll2 lc3 one4 H K := CallH_of_vc mix tabOk Try.func18 (by kernel_rfl) ((codec_row_api_Hunk.vc lp1 ll2 lc3 one4 H K).mpr h)
-- cento/codec.hunk (19)
def codec_hunk.ann : Ann := { loops := [], pars := [] }
def codec_hunk.F (h1 : ByteArray) (hp2 : Option Addr) (hl3 : Nat) (hc4 : Nat) (hp5 : Option Addr) (hl6 : Nat) (hc7 : Nat) (hp8 : Option Addr) (hl9 : Nat) (hc10 : Nat) (H : Hp) (K : ByteArray → Hp → Prop) : Prop :=
  NEW H [.string h1, .slice hp2 hl3 hc4, .slice hp5 hl6 hc7, .slice hp8 hl9 hc10] fun bq11 Hx12 => ldS (rd Hx12 bq11 0) fun x13 => ldL (rd Hx12 bq11 1) fun xp14 xl15 xc16 => ldL (rd Hx12 bq11 2) fun xp17 xl18 xc19 => ldL (rd Hx12 bq11 3) fun xp20 xl21 xc22 => codec_Text.C x13 Hx12 fun r23 Hx24 => rd Hx24 bq11 3 = some (.slice xp20 xl21 xc22) ∧ (rd Hx24 bq11 2 = some (.slice xp17 xl18 xc19) ∧ (rd Hx24 bq11 1 = some (.slice xp14 xl15 xc16) ∧ (codec_row_string.C xp14 xl15 xc16 (.func (.func 13) ⟨[]⟩ ⟨[]⟩) Hx24 fun r26 Hx27 => rd Hx27 bq11 3 = some (.slice xp20 xl21 xc22) ∧ (rd Hx27 bq11 2 = some (.slice xp17 xl18 xc19) ∧ (((r23.size + r26.size : Nat) : Int) ≤ 9223372036854775807 ∧ (codec_row_api_Edge.C xp17 xl18 xc19 (.func (.func 40) ⟨[]⟩ ⟨[]⟩) Hx27 fun r32 Hx33 => rd Hx33 bq11 3 = some (.slice xp20 xl21 xc22) ∧ ((((r23 ++ r26).size + r32.size : Nat) : Int) ≤ 9223372036854775807 ∧ (codec_row_api_LineID.C xp20 xl21 xc22 (.func (.func 42) ⟨[]⟩ ⟨[]⟩) Hx33 fun r38 Hx39 => ((((r23 ++ r26) ++ r32).size + r38.size : Nat) : Int) ≤ 9223372036854775807 ∧ (K (((r23 ++ r26) ++ r32) ++ r38) Hx39)))))))))
theorem codec_hunk.vc (h1 : ByteArray) (hp2 : Option Addr) (hl3 : Nat) (hc4 : Nat) (hp5 : Option Addr) (hl6 : Nat) (hc7 : Nat) (hp8 : Option Addr) (hl9 : Nat) (hc10 : Nat) (H : Hp) (K : ByteArray → Hp → Prop) : vcFun prog tab codec_hunk.ann none Try.f19 (List.map AV.v [.agg ⟨[.string h1, .slice hp2 hl3 hc4, .slice hp5 hl6 hc7, .slice hp8 hl9 hc10]⟩]) H (fun v H2 _ => liftS v fun r45 => K r45 H2) = codec_hunk.F h1 hp2 hl3 hc4 hp5 hl6 hc7 hp8 hl9 hc10 H K := by kernel_rfl
theorem codec_hunk.of (h1 : ByteArray) (hp2 : Option Addr) (hl3 : Nat) (hc4 : Nat) (hp5 : Option Addr) (hl6 : Nat) (hc7 : Nat) (hp8 : Option Addr) (hl9 : Nat) (hc10 : Nat) {H : Hp} {K : ByteArray → Hp → Prop} (h : codec_hunk.F h1 hp2 hl3 hc4 hp5 hl6 hc7 hp8 hl9 hc10 H K) : codec_hunk.C h1 hp2 hl3 hc4 hp5 hl6 hc7 hp8 hl9 hc10 H K := CallH_of_vc mix tabOk Try.func19 (by kernel_rfl) ((codec_hunk.vc h1 hp2 hl3 hc4 hp5 hl6 hc7 hp8 hl9 hc10 H K).mpr h)
-- (*cento/codec.Reader).ID (20)
def codec_Reader_ID.ann : Ann := { loops := [], pars := [] }
def codec_Reader_ID.F (r1 : Option Addr) (H : Hp) (K : Int → Hp → Prop) : Prop :=
  codec_Reader_Num.C r1 (65535 : Int) H fun r2 Hx3 => 0 ≤ (16 : Int) ∧ (codec_Reader_Num.C r1 (65535 : Int) Hx3 fun r6 Hx7 => K (ior .u32 (ishl .u32 (IntKind.wrap .u32 r2) (16 : Int)) (IntKind.wrap .u32 r6)) Hx7)
theorem codec_Reader_ID.vc (r1 : Option Addr) (H : Hp) (K : Int → Hp → Prop) : vcFun prog tab codec_Reader_ID.ann none Try.f20 (List.map AV.v [.pointer r1]) H (fun v H2 _ => liftI .u32 v fun r11 => K r11 H2) = codec_Reader_ID.F r1 H K := by kernel_rfl
theorem codec_Reader_ID.of (r1 : Option Addr) {H : Hp} {K : Int → Hp → Prop} (h : codec_Reader_ID.F r1 H K) : codec_Reader_ID.C r1 H K := CallH_of_vc mix tabOk Try.func20 (by kernel_rfl) ((codec_Reader_ID.vc r1 H K).mpr h)
-- (*cento/codec.Reader).IDs (21)
def codec_Reader_IDs.ann : Ann := { loops := [], pars := [] }
def codec_Reader_IDs.F (r1 : Option Addr) (H : Hp) (K : Option Addr → Nat → Nat → Hp → Prop) : Prop :=
  codec_Row_uint32.C r1 (60 : Int) (.func (.func 20) ⟨[.pointer r1]⟩ ⟨[]⟩) H fun rp2 rl3 rc4 Hx5 => K rp2 rl3 rc4 Hx5
theorem codec_Reader_IDs.vc (r1 : Option Addr) (H : Hp) (K : Option Addr → Nat → Nat → Hp → Prop) : vcFun prog tab codec_Reader_IDs.ann none Try.f21 (List.map AV.v [.pointer r1]) H (fun v H2 _ => liftL v fun rp12 rl13 rc14 => K rp12 rl13 rc14 H2) = codec_Reader_IDs.F r1 H K := by kernel_rfl
theorem codec_Reader_IDs.of (r1 : Option Addr) {H : Hp} {K : Option Addr → Nat → Nat → Hp → Prop} (h : codec_Reader_IDs.F r1 H K) : codec_Reader_IDs.C r1 H K := CallH_of_vc mix tabOk Try.func21 (by kernel_rfl) ((codec_Reader_IDs.vc r1 H K).mpr h)
-- (*cento/codec.Reader).Paths (22)
def codec_Reader_Paths.ann : Ann := { loops := [], pars := [] }
def codec_Reader_Paths.F (r1 : Option Addr) (H : Hp) (K : Option Addr → Nat → Nat → Hp → Prop) : Prop :=
  NEW H [.pointer r1] fun bq2 Hx3 => ldP (rd Hx3 bq2 0) fun x4 => codec_Row_string.C x4 (6 : Int) (.func (.func 46) ⟨[]⟩ ⟨[.pointer (some ⟨bq2, 0, none⟩)]⟩) Hx3 fun rp5 rl6 rc7 Hx8 => K rp5 rl6 rc7 Hx8
theorem codec_Reader_Paths.vc (r1 : Option Addr) (H : Hp) (K : Option Addr → Nat → Nat → Hp → Prop) : vcFun prog tab codec_Reader_Paths.ann none Try.f22 (List.map AV.v [.pointer r1]) H (fun v H2 _ => liftL v fun rp15 rl16 rc17 => K rp15 rl16 rc17 H2) = codec_Reader_Paths.F r1 H K := by kernel_rfl
theorem codec_Reader_Paths.of (r1 : Option Addr) {H : Hp} {K : Option Addr → Nat → Nat → Hp → Prop} (h : codec_Reader_Paths.F r1 H K) : codec_Reader_Paths.C r1 H K := CallH_of_vc mix tabOk Try.func22 (by kernel_rfl) ((codec_Reader_Paths.vc r1 H K).mpr h)
-- cento/codec.Row[cento/api.Hunk] (23)
def codec_Row_api_Hunk.ann : Ann := { loops := [(0, [(7, .one .slice), (13, .one (.int .i64))])], pars := [] }
def codec_Row_api_Hunk.F (r1 : Option Addr) (most2 : Int) (one3 : Value) (H : Hp) (K : Option Addr → Nat → Nat → Hp → Prop) : Prop :=
  codec_Reader_Num.C r1 most2 H fun r4 Hx5 => ∃ (Iq13 : Option Addr → Nat → Nat → Int → Hp → Prop) (mu14 : Option Addr → Nat → Nat → Int → Hp → Nat), Iq13 none 0 0 (0 : Int) Hx5 ∧ ∀ (outp8 : Option Addr) (outl9 : Nat) (outc10 : Nat) (t11 : Int) (Hx12 : Hp), Iq13 outp8 outl9 outc10 t11 Hx12 → bc ((decide (t11 < r4))) (NIL r1 fun bq15 oq16 => ldB (rd Hx12 bq15 (oq16 + 1)) fun x17 => bc (x17) (K outp8 outl9 outc10 Hx12) (CallV prog one3 [] Hx12 fun v Hx31 => aggV v fun cs => d4 cs fun wv0 wv1 wv2 wv3 => liftS wv0 fun r21 => liftL wv1 fun rp22 rl23 rc24 => liftL wv2 fun rp25 rl26 rc27 => liftL wv3 fun rp28 rl29 rc30 => NEW Hx31 ([.string r21, .slice rp22 rl23 rc24, .slice rp25 rl26 rc27, .slice rp28 rl29 rc30]) fun bq32 Hx33 => APP Hx33 te_api_Hunk outp8 outl9 outc10 (.slice (some ⟨bq32, 0, none⟩) 1 1) fun xp34 xl35 xc36 Hx37 => CHK .i64 (t11 + (1 : Int)) fun x38 => Iq13 xp34 xl35 xc36 x38 Hx37 ∧ mu14 xp34 xl35 xc36 x38 Hx37 < mu14 outp8 outl9 outc10 t11 Hx12)) (K outp8 outl9 outc10 Hx12)
theorem codec_Row_api_Hunk.vc (r1 : Option Addr) (most2 : Int) (one3 : Value) (H : Hp) (K : Option Addr → Nat → Nat → Hp → Prop) : vcFun prog tab codec_Row_api_Hunk.ann none Try.f23 (List.map AV.v [.pointer r1, .int .i64 most2, one3]) H (fun v H2 _ => liftL v fun rp46 rl47 rc48 => K rp46 rl47 rc48 H2) = codec_Row_api_Hunk.F r1 most2 one3 H K := by kernel_rfl
theorem codec_Row_api_Hunk.of (r1 : Option Addr) (most2 : Int) (one3 : Value) {H : Hp} {K : Option Addr → Nat → Nat → Hp → Prop} (h : codec_Row_api_Hunk.F r1 most2 one3 H K) : codec_Row_api_Hunk.C r1 most2 one3 H K := CallH_of_vc mix tabOk Try.func23 (by kernel_rfl) ((codec_Row_api_Hunk.vc r1 most2 one3 H K).mpr h)
-- (*cento/codec.Reader).hunk (24)
def codec_Reader_hunk.ann : Ann := { loops := [], pars := [] }
def codec_Reader_hunk.F (r1 : Option Addr) (H : Hp) (K : ByteArray → Option Addr → Nat → Nat → Option Addr → Nat → Nat → Option Addr → Nat → Nat → Hp → Prop) : Prop :=
  NEW H [.pointer r1] fun bq2 Hx3 => NEW Hx3 [.string .empty, .slice none 0 0, .slice none 0 0, .slice none 0 0] fun bq4 Hx5 => ldP (rd Hx5 bq2 0) fun x6 => ldP (rd Hx5 bq2 0) fun x7 => ldP (rd Hx5 bq2 0) fun x8 => ldP (rd Hx5 bq2 0) fun x9 => ldP (rd Hx5 bq2 0) fun x10 => codec_Reader_Text.C x6 (20 : Int) Hx5 fun r11 Hx12 => rd Hx12 bq2 0 = some (.pointer x10) ∧ (rd Hx12 bq2 0 = some (.pointer x9) ∧ (rd Hx12 bq2 0 = some (.pointer x8) ∧ (rd Hx12 bq2 0 = some (.pointer x7) ∧ (codec_Row_string.C x7 (40 : Int) (.func (.func 48) ⟨[]⟩ ⟨[.pointer (some ⟨bq2, 0, none⟩)]⟩) Hx12 fun rp15 rl16 rc17 Hx18 => rd Hx18 bq2 0 = some (.pointer x10) ∧ (rd Hx18 bq2 0 = some (.pointer x9) ∧ (rd Hx18 bq2 0 = some (.pointer x8) ∧ (codec_Row_api_Edge.C x8 (80 : Int) (.func (.func 50) ⟨[]⟩ ⟨[.pointer (some ⟨bq2, 0, none⟩)]⟩) Hx18 fun rp22 rl23 rc24 Hx25 => rd Hx25 bq2 0 = some (.pointer x10) ∧ (rd Hx25 bq2 0 = some (.pointer x9) ∧ (codec_Row_api_LineID.C x9 (40 : Int) (.func (.func 51) ⟨[.pointer x10]⟩ ⟨[]⟩) Hx25 fun rp29 rl30 rc31 Hx32 => ST Hx32 bq4 0 (.string r11) fun Hx36 => ST Hx36 bq4 1 (.slice rp15 rl16 rc17) fun Hx37 => ST Hx37 bq4 2 (.slice rp22 rl23 rc24) fun Hx38 => ST Hx38 bq4 3 (.slice rp29 rl30 rc31) fun Hx39 => ldS (rd Hx39 bq4 0) fun r40 => ldL (rd Hx39 bq4 1) fun rp41 rl42 rc43 => ldL (rd Hx39 bq4 2) fun rp44 rl45 rc46 => ldL (rd Hx39 bq4 3) fun rp47 rl48 rc49 => K r40 rp41 rl42 rc43 rp44 rl45 rc46 rp47 rl48 rc49 Hx39)))))))))
theorem codec_Reader_hunk.vc (r1 : Option Addr) (H : Hp) (K : ByteArray → Option Addr → Nat → Nat → Option Addr → Nat → Nat → Option Addr → Nat → Nat → Hp → Prop) : vcFun prog tab codec_Reader_hunk.ann none Try.f24 (List.map AV.v [.pointer r1]) H (fun v H2 _ => aggV v fun cs => d4 cs fun wv0 wv1 wv2 wv3 => liftS wv0 fun r60 => liftL wv1 fun rp61 rl62 rc63 => liftL wv2 fun rp64 rl65 rc66 => liftL wv3 fun rp67 rl68 rc69 => K r60 rp61 rl62 rc63 rp64 rl65 rc66 rp67 rl68 rc69 H2) = codec_Reader_hunk.F r1 H K := by kernel_rfl
theorem codec_Reader_hunk.of (r1 : Option Addr) {H : Hp} {K : ByteArray → Option Addr → Nat → Nat → Option Addr → Nat → Nat → Option Addr → Nat → Nat → Hp → Prop} (h : codec_Reader_hunk.F r1 H K) : codec_Reader_hunk.C r1 H K := CallH_of_vc mix tabOk Try.func24 (by kernel_rfl) ((codec_Reader_hunk.vc r1 H K).mpr h)
-- cento/centoref12.SameIDs (25)
def centoref12_SameIDs.ann : Ann := { loops := [(0, [(5, .one (.int .i64))])], pars := [] }
def centoref12_SameIDs.F (ap1 : Option Addr) (al2 : Nat) (_ac3 : Nat) (bp4 : Option Addr) (bl5 : Nat) (_bcq6 : Nat) (H : Hp) (K : Bool → Hp → Prop) : Prop :=
  bc ((decide (¬ ((al2 : Nat) : Int) = ((bl5 : Nat) : Int)))) (K false H) (∃ (Iq10 : Int → Hp → Prop) (mu11 : Int → Hp → Nat), Iq10 (0 : Int) H ∧ ∀ (i8 : Int) (Hx9 : Hp), Iq10 i8 Hx9 → bc ((decide (i8 < ((al2 : Nat) : Int)))) (IDX i8 al2 fun k12 => NIL ap1 fun bq13 oq14 => ldI .u32 (rd Hx9 bq13 (oq14 + k12)) fun x15 => IDX i8 bl5 fun k16 => NIL bp4 fun bq17 oq18 => ldI .u32 (rd Hx9 bq17 (oq18 + k16)) fun x19 => bc ((decide (¬ x15 = x19))) (K false Hx9) (CHK .i64 (i8 + (1 : Int)) fun x21 => Iq10 x21 Hx9 ∧ mu11 x21 Hx9 < mu11 i8 Hx9)) (K true Hx9))
theorem centoref12_SameIDs.vc (ap1 : Option Addr) (al2 : Nat) (ac3 : Nat) (bp4 : Option Addr) (bl5 : Nat) (bcq6 : Nat) (H : Hp) (K : Bool → Hp → Prop) : vcFun prog tab centoref12_SameIDs.ann none Try.f25 (List.map AV.v [.slice ap1 al2 ac3, .slice bp4 bl5 bcq6]) H (fun v H2 _ => liftB v fun r24 => K r24 H2) = centoref12_SameIDs.F ap1 al2 ac3 bp4 bl5 bcq6 H K := by kernel_rfl
theorem centoref12_SameIDs.of (ap1 : Option Addr) (al2 : Nat) (ac3 : Nat) (bp4 : Option Addr) (bl5 : Nat) (bcq6 : Nat) {H : Hp} {K : Bool → Hp → Prop} (h : centoref12_SameIDs.F ap1 al2 ac3 bp4 bl5 bcq6 H K) : centoref12_SameIDs.C ap1 al2 ac3 bp4 bl5 bcq6 H K := CallH_of_vc mix tabOk Try.func25 (by kernel_rfl) ((centoref12_SameIDs.vc ap1 al2 ac3 bp4 bl5 bcq6 H K).mpr h)
-- cento/centoref12.sameTexts (26)
def centoref12_sameTexts.ann : Ann := { loops := [(0, [(5, .one (.int .i64))])], pars := [] }
def centoref12_sameTexts.F (ap1 : Option Addr) (al2 : Nat) (_ac3 : Nat) (bp4 : Option Addr) (bl5 : Nat) (_bcq6 : Nat) (H : Hp) (K : Bool → Hp → Prop) : Prop :=
  bc ((decide (¬ ((al2 : Nat) : Int) = ((bl5 : Nat) : Int)))) (K false H) (∃ (Iq10 : Int → Hp → Prop) (mu11 : Int → Hp → Nat), Iq10 (0 : Int) H ∧ ∀ (i8 : Int) (Hx9 : Hp), Iq10 i8 Hx9 → bc ((decide (i8 < ((al2 : Nat) : Int)))) (IDX i8 al2 fun k12 => NIL ap1 fun bq13 oq14 => ldS (rd Hx9 bq13 (oq14 + k12)) fun x15 => IDX i8 bl5 fun k16 => NIL bp4 fun bq17 oq18 => ldS (rd Hx9 bq17 (oq18 + k16)) fun x19 => bc ((decide (¬ x15 = x19))) (K false Hx9) (CHK .i64 (i8 + (1 : Int)) fun x21 => Iq10 x21 Hx9 ∧ mu11 x21 Hx9 < mu11 i8 Hx9)) (K true Hx9))
theorem centoref12_sameTexts.vc (ap1 : Option Addr) (al2 : Nat) (ac3 : Nat) (bp4 : Option Addr) (bl5 : Nat) (bcq6 : Nat) (H : Hp) (K : Bool → Hp → Prop) : vcFun prog tab centoref12_sameTexts.ann none Try.f26 (List.map AV.v [.slice ap1 al2 ac3, .slice bp4 bl5 bcq6]) H (fun v H2 _ => liftB v fun r24 => K r24 H2) = centoref12_sameTexts.F ap1 al2 ac3 bp4 bl5 bcq6 H K := by kernel_rfl
theorem centoref12_sameTexts.of (ap1 : Option Addr) (al2 : Nat) (ac3 : Nat) (bp4 : Option Addr) (bl5 : Nat) (bcq6 : Nat) {H : Hp} {K : Bool → Hp → Prop} (h : centoref12_sameTexts.F ap1 al2 ac3 bp4 bl5 bcq6 H K) : centoref12_sameTexts.C ap1 al2 ac3 bp4 bl5 bcq6 H K := CallH_of_vc mix tabOk Try.func26 (by kernel_rfl) ((centoref12_sameTexts.vc ap1 al2 ac3 bp4 bl5 bcq6 H K).mpr h)
-- cento/centoref12.SameHunk (27)
def centoref12_SameHunk.ann : Ann := { loops := [(0, [(5, .one (.int .i64))]), (2, [(6, .one (.int .i64))])], pars := [] }
def centoref12_SameHunk.k1 (K : Bool → Hp → Prop) (bq21 : Nat) (bq23 : Nat) (Hx57 : Hp) : Prop :=
  ∃ (Iq60 : Int → Hp → Prop) (mu61 : Int → Hp → Nat), Iq60 (0 : Int) Hx57 ∧ ∀ (i58 : Int) (Hx59 : Hp), Iq60 i58 Hx59 → ldL (rd Hx59 bq21 2) fun _ xl63 _ => bc ((decide (i58 < ((xl63 : Nat) : Int)))) (ldL (rd Hx59 bq21 2) fun xp65 xl66 _ => IDX i58 xl66 fun k68 => NIL xp65 fun bq69 oq70 => ldI .u32 (rd Hx59 bq69 (oq70 + (k68 * 4))) fun x71 => ldI .i64 (rd Hx59 bq69 ((oq70 + (k68 * 4)) + 1)) fun x72 => ldI .u32 (rd Hx59 bq69 (((oq70 + (k68 * 4)) + 1) + 1)) fun x73 => ldI .i64 (rd Hx59 bq69 ((((oq70 + (k68 * 4)) + 1) + 1) + 1)) fun x74 => ldL (rd Hx59 bq23 2) fun xp75 xl76 _ => IDX i58 xl76 fun k78 => NIL xp75 fun bq79 oq80 => ldI .u32 (rd Hx59 bq79 (oq80 + (k78 * 4))) fun x81 => ldI .i64 (rd Hx59 bq79 ((oq80 + (k78 * 4)) + 1)) fun x82 => ldI .u32 (rd Hx59 bq79 (((oq80 + (k78 * 4)) + 1) + 1)) fun x83 => ldI .i64 (rd Hx59 bq79 ((((oq80 + (k78 * 4)) + 1) + 1) + 1)) fun x84 => bc ((!(((decide (x71 = x81)) && (decide (x72 = x82))) && ((decide (x73 = x83)) && (decide (x74 = x84)))))) (K false Hx59) (CHK .i64 (i58 + (1 : Int)) fun x86 => Iq60 x86 Hx59 ∧ mu61 x86 Hx59 < mu61 i58 Hx59)) (∃ (Iq90 : Int → Hp → Prop) (mu91 : Int → Hp → Nat), Iq90 (0 : Int) Hx59 ∧ ∀ (i88 : Int) (Hx89 : Hp), Iq90 i88 Hx89 → ldL (rd Hx89 bq21 3) fun _ xl93 _ => bc ((decide (i88 < ((xl93 : Nat) : Int)))) (ldL (rd Hx89 bq21 3) fun xp95 xl96 _ => IDX i88 xl96 fun k98 => NIL xp95 fun bq99 oq100 => ldI .u32 (rd Hx89 bq99 (oq100 + (k98 * 2))) fun x101 => ldI .i64 (rd Hx89 bq99 ((oq100 + (k98 * 2)) + 1)) fun x102 => ldL (rd Hx89 bq23 3) fun xp103 xl104 _ => IDX i88 xl104 fun k106 => NIL xp103 fun bq107 oq108 => ldI .u32 (rd Hx89 bq107 (oq108 + (k106 * 2))) fun x109 => ldI .i64 (rd Hx89 bq107 ((oq108 + (k106 * 2)) + 1)) fun x110 => bc ((!((decide (x101 = x109)) && (decide (x102 = x110))))) (K false Hx89) (CHK .i64 (i88 + (1 : Int)) fun x112 => Iq90 x112 Hx89 ∧ mu91 x112 Hx89 < mu91 i88 Hx89)) (K true Hx89))
def centoref12_SameHunk.F (a1 : ByteArray) (ap2 : Option Addr) (al3 : Nat) (ac4 : Nat) (ap5 : Option Addr) (al6 : Nat) (ac7 : Nat) (ap8 : Option Addr) (al9 : Nat) (ac10 : Nat) (bq11 : ByteArray) (bp12 : Option Addr) (bl13 : Nat) (bcq14 : Nat) (bp15 : Option Addr) (bl16 : Nat) (bcq17 : Nat) (bp18 : Option Addr) (bl19 : Nat) (bcq20 : Nat) (H : Hp) (K : Bool → Hp → Prop) : Prop :=
  NEW H [.string a1, .slice ap2 al3 ac4, .slice ap5 al6 ac7, .slice ap8 al9 ac10] fun bq21 Hx22 => NEW Hx22 [.string bq11, .slice bp12 bl13 bcq14, .slice bp15 bl16 bcq17, .slice bp18 bl19 bcq20] fun bq23 Hx24 => ldS (rd Hx24 bq21 0) fun x25 => ldS (rd Hx24 bq23 0) fun x26 => bc ((decide (¬ x25 = x26))) (K false Hx24) (ldL (rd Hx24 bq21 1) fun xp28 xl29 xc30 => ldL (rd Hx24 bq23 1) fun xp31 xl32 xc33 => centoref12_sameTexts.C xp28 xl29 xc30 xp31 xl32 xc33 Hx24 fun r34 Hx35 => bc ((!r34)) (K false Hx35) (ldL (rd Hx35 bq21 2) fun _ xl44 _ => ldL (rd Hx35 bq23 2) fun _ xl47 _ => bc ((decide (¬ ((xl44 : Nat) : Int) = ((xl47 : Nat) : Int)))) (K false Hx35) (ldL (rd Hx35 bq21 3) fun _ xl51 _ => ldL (rd Hx35 bq23 3) fun _ xl54 _ => bc ((decide (¬ ((xl51 : Nat) : Int) = ((xl54 : Nat) : Int)))) (K false Hx35) (centoref12_SameHunk.k1 K bq21 bq23 Hx35))))
theorem centoref12_SameHunk.vc (a1 : ByteArray) (ap2 : Option Addr) (al3 : Nat) (ac4 : Nat) (ap5 : Option Addr) (al6 : Nat) (ac7 : Nat) (ap8 : Option Addr) (al9 : Nat) (ac10 : Nat) (bq11 : ByteArray) (bp12 : Option Addr) (bl13 : Nat) (bcq14 : Nat) (bp15 : Option Addr) (bl16 : Nat) (bcq17 : Nat) (bp18 : Option Addr) (bl19 : Nat) (bcq20 : Nat) (H : Hp) (K : Bool → Hp → Prop) : vcFun prog tab centoref12_SameHunk.ann none Try.f27 (List.map AV.v [.agg ⟨[.string a1, .slice ap2 al3 ac4, .slice ap5 al6 ac7, .slice ap8 al9 ac10]⟩, .agg ⟨[.string bq11, .slice bp12 bl13 bcq14, .slice bp15 bl16 bcq17, .slice bp18 bl19 bcq20]⟩]) H (fun v H2 _ => liftB v fun r115 => K r115 H2) = centoref12_SameHunk.F a1 ap2 al3 ac4 ap5 al6 ac7 ap8 al9 ac10 bq11 bp12 bl13 bcq14 bp15 bl16 bcq17 bp18 bl19 bcq20 H K := by kernel_rfl
theorem centoref12_SameHunk.of (a1 : ByteArray) (ap2 : Option Addr) (al3 : Nat) (ac4 : Nat) (ap5 : Option Addr) (al6 : Nat) (ac7 : Nat) (ap8 : Option Addr) (al9 : Nat) (ac10 : Nat) (bq11 : ByteArray) (bp12 : Option Addr) (bl13 : Nat) (bcq14 : Nat) (bp15 : Option Addr) (bl16 : Nat) (bcq17 : Nat) (bp18 : Option Addr) (bl19 : Nat) (bcq20 : Nat) {H : Hp} {K : Bool → Hp → Prop} (h : centoref12_SameHunk.F a1 ap2 al3 ac4 ap5 al6 ac7 ap8 al9 ac10 bq11 bp12 bl13 bcq14 bp15 bl16 bcq17 bp18 bl19 bcq20 H K) : centoref12_SameHunk.C a1 ap2 al3 ac4 ap5 al6 ac7 ap8 al9 ac10 bq11 bp12 bl13 bcq14 bp15 bl16 bcq17 bp18 bl19 bcq20 H K := CallH_of_vc mix tabOk Try.func27 (by kernel_rfl) ((centoref12_SameHunk.vc a1 ap2 al3 ac4 ap5 al6 ac7 ap8 al9 ac10 bq11 bp12 bl13 bcq14 bp15 bl16 bcq17 bp18 bl19 bcq20 H K).mpr h)
-- cento/patch.paths (28)
def patch_paths.ann : Ann := { loops := [], pars := [] }
def patch_paths.F (lp1 : Option Addr) (ll2 : Nat) (lc3 : Nat) (H : Hp) (K : Bool → Hp → Prop) : Prop :=
  bc ((decide (((ll2 : Nat) : Int) ≤ (6 : Int)))) (patch_rises_string.C lp1 ll2 lc3 (.func (.func 54) ⟨[]⟩ ⟨[]⟩) H fun r4 Hx5 => bc (r4) (slices_ContainsFunc_string_string.C lp1 ll2 lc3 (.func (.func 55) ⟨[]⟩ ⟨[]⟩) Hx5 fun r10 Hx11 => K (!r10) Hx11) (K false Hx5)) (K false H)
theorem patch_paths.vc (lp1 : Option Addr) (ll2 : Nat) (lc3 : Nat) (H : Hp) (K : Bool → Hp → Prop) : vcFun prog tab patch_paths.ann none Try.f28 (List.map AV.v [.slice lp1 ll2 lc3]) H (fun v H2 _ => liftB v fun r19 => K r19 H2) = patch_paths.F lp1 ll2 lc3 H K := by kernel_rfl
theorem patch_paths.of (lp1 : Option Addr) (ll2 : Nat) (lc3 : Nat) {H : Hp} {K : Bool → Hp → Prop} (h : patch_paths.F lp1 ll2 lc3 H K) : patch_paths.C lp1 ll2 lc3 H K := CallH_of_vc mix tabOk Try.func28 (by kernel_rfl) ((patch_paths.vc lp1 ll2 lc3 H K).mpr h)
-- cento/patch.deps (29)
def patch_deps.ann : Ann := { loops := [], pars := [] }
def patch_deps.k1 (K : Bool → Hp → Prop) (bq14 : Nat) (Hx51 : Hp) : Prop :=
  ldI .u32 (rd Hx51 bq14 0) fun x52 => ldL (rd Hx51 bq14 1) fun xp53 xl54 xc55 => ldL (rd Hx51 bq14 2) fun xp56 xl57 xc58 => ldL (rd Hx51 bq14 3) fun xp59 xl60 xc61 => ldL (rd Hx51 bq14 4) fun xp62 xl63 xc64 => patch_Needs.C x52 xp53 xl54 xc55 xp56 xl57 xc58 xp59 xl60 xc61 xp62 xl63 xc64 Hx51 fun rp65 rl66 rc67 Hx68 => slices_ContainsFunc_uint32_uint32.C rp65 rl66 rc67 (.func (.func 61) ⟨[]⟩ ⟨[.pointer (some ⟨bq14, 0, none⟩)]⟩) Hx68 fun r82 Hx83 => K (!r82) Hx83
def patch_deps.F (p1 : Int) (pp2 : Option Addr) (pl3 : Nat) (pc4 : Nat) (pp5 : Option Addr) (pl6 : Nat) (pc7 : Nat) (pp8 : Option Addr) (pl9 : Nat) (pc10 : Nat) (pp11 : Option Addr) (pl12 : Nat) (pc13 : Nat) (H : Hp) (K : Bool → Hp → Prop) : Prop :=
  NEW H [.int .u32 p1, .slice pp2 pl3 pc4, .slice pp5 pl6 pc7, .slice pp8 pl9 pc10, .slice pp11 pl12 pc13] fun bq14 Hx15 => ldL (rd Hx15 bq14 1) fun _ xl17 _ => bc ((decide ((60 : Int) < ((xl17 : Nat) : Int)))) (K false Hx15) (ldL (rd Hx15 bq14 1) fun xp20 xl21 xc22 => patch_rises_uint32.C xp20 xl21 xc22 (.func (.func 57) ⟨[]⟩ ⟨[]⟩) Hx15 fun r23 Hx24 => bc ((!r23)) (K false Hx24) (ldL (rd Hx24 bq14 1) fun xp30 xl31 xc32 => slices_Contains_uint32_uint32.C xp30 xl31 xc32 (0 : Int) Hx24 fun r33 Hx34 => bc (r33) (K false Hx34) (ldL (rd Hx34 bq14 1) fun xp40 xl41 xc42 => ldI .u32 (rd Hx34 bq14 0) fun x43 => slices_Contains_uint32_uint32.C xp40 xl41 xc42 x43 Hx34 fun r44 Hx45 => bc (r44) (K false Hx45) (patch_deps.k1 K bq14 Hx45))))
theorem patch_deps.vc (p1 : Int) (pp2 : Option Addr) (pl3 : Nat) (pc4 : Nat) (pp5 : Option Addr) (pl6 : Nat) (pc7 : Nat) (pp8 : Option Addr) (pl9 : Nat) (pc10 : Nat) (pp11 : Option Addr) (pl12 : Nat) (pc13 : Nat) (H : Hp) (K : Bool → Hp → Prop) : vcFun prog tab patch_deps.ann none Try.f29 (List.map AV.v [.agg ⟨[.int .u32 p1, .slice pp2 pl3 pc4, .slice pp5 pl6 pc7, .slice pp8 pl9 pc10, .slice pp11 pl12 pc13]⟩]) H (fun v H2 _ => liftB v fun r89 => K r89 H2) = patch_deps.F p1 pp2 pl3 pc4 pp5 pl6 pc7 pp8 pl9 pc10 pp11 pl12 pc13 H K := by kernel_rfl
theorem patch_deps.of (p1 : Int) (pp2 : Option Addr) (pl3 : Nat) (pc4 : Nat) (pp5 : Option Addr) (pl6 : Nat) (pc7 : Nat) (pp8 : Option Addr) (pl9 : Nat) (pc10 : Nat) (pp11 : Option Addr) (pl12 : Nat) (pc13 : Nat) {H : Hp} {K : Bool → Hp → Prop} (h : patch_deps.F p1 pp2 pl3 pc4 pp5 pl6 pc7 pp8 pl9 pc10 pp11 pl12 pc13 H K) : patch_deps.C p1 pp2 pl3 pc4 pp5 pl6 pc7 pp8 pl9 pc10 pp11 pl12 pc13 H K := CallH_of_vc mix tabOk Try.func29 (by kernel_rfl) ((patch_deps.vc p1 pp2 pl3 pc4 pp5 pl6 pc7 pp8 pl9 pc10 pp11 pl12 pc13 H K).mpr h)
-- slices.ContainsFunc[[]string,string] (30)
def slices_ContainsFunc_string_string.ann : Ann := { loops := [], pars := [] }
def slices_ContainsFunc_string_string.F (sp1 : Option Addr) (sl2 : Nat) (sc3 : Nat) (f4 : Value) (H : Hp) (K : Bool → Hp → Prop) : Prop :=
  slices_IndexFunc_string_string.C sp1 sl2 sc3 (f4) H fun r5 Hx6 => K (decide ((0 : Int) ≤ r5)) Hx6
theorem slices_ContainsFunc_string_string.vc (sp1 : Option Addr) (sl2 : Nat) (sc3 : Nat) (f4 : Value) (H : Hp) (K : Bool → Hp → Prop) : vcFun prog tab slices_ContainsFunc_string_string.ann none Try.f30 (List.map AV.v [.slice sp1 sl2 sc3, f4]) H (fun v H2 _ => liftB v fun r12 => K r12 H2) = slices_ContainsFunc_string_string.F sp1 sl2 sc3 f4 H K := by kernel_rfl
theorem slices_ContainsFunc_string_string.of (sp1 : Option Addr) (sl2 : Nat) (sc3 : Nat) (f4 : Value) {H : Hp} {K : Bool → Hp → Prop} (h : slices_ContainsFunc_string_string.F sp1 sl2 sc3 f4 H K) : slices_ContainsFunc_string_string.C sp1 sl2 sc3 f4 H K := CallH_of_vc mix tabOk Try.func30 (by kernel_rfl) ((slices_ContainsFunc_string_string.vc sp1 sl2 sc3 f4 H K).mpr h)
-- cento/patch.Is$1 (31)
def patch_Is_1.ann : Ann := { loops := [], pars := [] }
def patch_Is_1.F (s1 : ByteArray) (cap2 : Nat) (H : Hp) (K : Bool → Hp → Prop) : Prop :=
  ldL (rd H cap2 3) fun xp3 xl4 xc5 => slices_Contains_string_string.C xp3 xl4 xc5 s1 H fun r6 Hx7 => K r6 Hx7
theorem patch_Is_1.vc (s1 : ByteArray) (cap2 : Nat) (H : Hp) (K : Bool → Hp → Prop) : vcFun prog tab patch_Is_1.ann none Try.f31 (List.map AV.v [.string s1, .pointer (some ⟨cap2, 0, none⟩)]) H (fun v H2 _ => liftB v fun r13 => K r13 H2) = patch_Is_1.F s1 cap2 H K := by kernel_rfl
theorem patch_Is_1.of (s1 : ByteArray) (cap2 : Nat) {H : Hp} {K : Bool → Hp → Prop} (h : patch_Is_1.F s1 cap2 H K) : patch_Is_1.C s1 cap2 H K := CallH_of_vc mix tabOk Try.func31 (by kernel_rfl) ((patch_Is_1.vc s1 cap2 H K).mpr h)
-- slices.Contains[[]string,string] (32)
def slices_Contains_string_string.ann : Ann := { loops := [], pars := [] }
def slices_Contains_string_string.F (sp1 : Option Addr) (sl2 : Nat) (sc3 : Nat) (v4 : ByteArray) (H : Hp) (K : Bool → Hp → Prop) : Prop :=
  slices_Index_string_string.C sp1 sl2 sc3 v4 H fun r5 Hx6 => K (decide ((0 : Int) ≤ r5)) Hx6
theorem slices_Contains_string_string.vc (sp1 : Option Addr) (sl2 : Nat) (sc3 : Nat) (v4 : ByteArray) (H : Hp) (K : Bool → Hp → Prop) : vcFun prog tab slices_Contains_string_string.ann none Try.f32 (List.map AV.v [.slice sp1 sl2 sc3, .string v4]) H (fun v H2 _ => liftB v fun r12 => K r12 H2) = slices_Contains_string_string.F sp1 sl2 sc3 v4 H K := by kernel_rfl
theorem slices_Contains_string_string.of (sp1 : Option Addr) (sl2 : Nat) (sc3 : Nat) (v4 : ByteArray) {H : Hp} {K : Bool → Hp → Prop} (h : slices_Contains_string_string.F sp1 sl2 sc3 v4 H K) : slices_Contains_string_string.C sp1 sl2 sc3 v4 H K := CallH_of_vc mix tabOk Try.func32 (by kernel_rfl) ((slices_Contains_string_string.vc sp1 sl2 sc3 v4 H K).mpr h)
-- cento/patch.IsPath (33)
def patch_IsPath.ann : Ann := { loops := [(0, [(14, .one (.int .i64))])], pars := [] }
def patch_IsPath.k1 (K : Bool → Hp → Prop) (s1 : ByteArray) (Hx4 : Hp) : Prop :=
  ∃ (Iq7 : Int → Hp → Prop) (mu8 : Int → Hp → Nat), Iq7 (0 : Int) Hx4 ∧ ∀ (t5 : Int) (Hx6 : Hp), Iq7 t5 Hx6 → bc ((decide (t5 < ((s1.size : Nat) : Int)))) (IDX t5 s1.size fun k9 => bc ((decide (((s1.data.toList.getD k9 0).toNat : Int) < (97 : Int)))) (bc ((decide (((s1.data.toList.getD k9 0).toNat : Int) < (48 : Int)))) (bc ((decide (¬ ((s1.data.toList.getD k9 0).toNat : Int) = (46 : Int)))) (bc ((decide (¬ ((s1.data.toList.getD k9 0).toNat : Int) = (47 : Int)))) (K false Hx6) (CHK .i64 (t5 + (1 : Int)) fun x11 => Iq7 x11 Hx6 ∧ mu8 x11 Hx6 < mu8 t5 Hx6)) (CHK .i64 (t5 + (1 : Int)) fun x13 => Iq7 x13 Hx6 ∧ mu8 x13 Hx6 < mu8 t5 Hx6)) (bc ((decide ((57 : Int) < ((s1.data.toList.getD k9 0).toNat : Int)))) (bc ((decide (¬ ((s1.data.toList.getD k9 0).toNat : Int) = (46 : Int)))) (bc ((decide (¬ ((s1.data.toList.getD k9 0).toNat : Int) = (47 : Int)))) (K false Hx6) (CHK .i64 (t5 + (1 : Int)) fun x16 => Iq7 x16 Hx6 ∧ mu8 x16 Hx6 < mu8 t5 Hx6)) (CHK .i64 (t5 + (1 : Int)) fun x18 => Iq7 x18 Hx6 ∧ mu8 x18 Hx6 < mu8 t5 Hx6)) (CHK .i64 (t5 + (1 : Int)) fun x20 => Iq7 x20 Hx6 ∧ mu8 x20 Hx6 < mu8 t5 Hx6))) (bc ((decide ((122 : Int) < ((s1.data.toList.getD k9 0).toNat : Int)))) (bc ((decide (((s1.data.toList.getD k9 0).toNat : Int) < (48 : Int)))) (bc ((decide (¬ ((s1.data.toList.getD k9 0).toNat : Int) = (46 : Int)))) (bc ((decide (¬ ((s1.data.toList.getD k9 0).toNat : Int) = (47 : Int)))) (K false Hx6) (CHK .i64 (t5 + (1 : Int)) fun x23 => Iq7 x23 Hx6 ∧ mu8 x23 Hx6 < mu8 t5 Hx6)) (CHK .i64 (t5 + (1 : Int)) fun x25 => Iq7 x25 Hx6 ∧ mu8 x25 Hx6 < mu8 t5 Hx6)) (bc ((decide ((57 : Int) < ((s1.data.toList.getD k9 0).toNat : Int)))) (bc ((decide (¬ ((s1.data.toList.getD k9 0).toNat : Int) = (46 : Int)))) (bc ((decide (¬ ((s1.data.toList.getD k9 0).toNat : Int) = (47 : Int)))) (K false Hx6) (CHK .i64 (t5 + (1 : Int)) fun x28 => Iq7 x28 Hx6 ∧ mu8 x28 Hx6 < mu8 t5 Hx6)) (CHK .i64 (t5 + (1 : Int)) fun x30 => Iq7 x30 Hx6 ∧ mu8 x30 Hx6 < mu8 t5 Hx6)) (CHK .i64 (t5 + (1 : Int)) fun x32 => Iq7 x32 Hx6 ∧ mu8 x32 Hx6 < mu8 t5 Hx6))) (CHK .i64 (t5 + (1 : Int)) fun x34 => Iq7 x34 Hx6 ∧ mu8 x34 Hx6 < mu8 t5 Hx6))) (K true Hx6)
def patch_IsPath.F (s1 : ByteArray) (H : Hp) (K : Bool → Hp → Prop) : Prop :=
  bc ((decide (s1 = (bs [])))) (K false H) (bc ((decide ((20 : Int) < ((s1.size : Nat) : Int)))) (K false H) (patch_IsPath.k1 K s1 H))
theorem patch_IsPath.vc (s1 : ByteArray) (H : Hp) (K : Bool → Hp → Prop) : vcFun prog tab patch_IsPath.ann none Try.f33 (List.map AV.v [.string s1]) H (fun v H2 _ => liftB v fun r37 => K r37 H2) = patch_IsPath.F s1 H K := by kernel_rfl
theorem patch_IsPath.of (s1 : ByteArray) {H : Hp} {K : Bool → Hp → Prop} (h : patch_IsPath.F s1 H K) : patch_IsPath.C s1 H K := CallH_of_vc mix tabOk Try.func33 (by kernel_rfl) ((patch_IsPath.vc s1 H K).mpr h)
-- cento/patch.isHunk (34)
def patch_isHunk.ann : Ann := { loops := [(0, [(34, .one (.int .i64))]), (2, [(45, .one (.int .i64))]), (4, [(72, .one (.int .i64))])], pars := [] }
def patch_isHunk.k1 (K : Bool → Hp → Prop) (bq13 : Nat) (bq15 : Nat) (bq17 : Nat) (Hx31 : Hp) : Prop :=
  ldL (rd Hx31 bq15 1) fun xp32 xl33 _ => ∃ (Iq37 : Int → Hp → Prop) (mu38 : Int → Hp → Nat), Iq37 (0 : Int) Hx31 ∧ ∀ (t35 : Int) (Hx36 : Hp), Iq37 t35 Hx36 → bc ((decide (t35 < ((xl33 : Nat) : Int)))) (IDX t35 xl33 fun k39 => NIL xp32 fun bq40 oq41 => ldS (rd Hx36 bq40 (oq41 + k39)) fun x42 => patch_isLine.C x42 Hx36 fun r43 Hx44 => bc ((!r43)) (K false Hx44) (CHK .i64 (t35 + (1 : Int)) fun x47 => Iq37 x47 Hx44 ∧ mu38 x47 Hx44 < mu38 t35 Hx36)) (ldL (rd Hx36 bq15 2) fun xp49 xl50 _ => ∃ (Iq54 : Int → Hp → Prop) (mu55 : Int → Hp → Nat), Iq54 (0 : Int) Hx36 ∧ ∀ (t52 : Int) (Hx53 : Hp), Iq54 t52 Hx53 → bc ((decide (t52 < ((xl50 : Nat) : Int)))) (IDX t52 xl50 fun k56 => NIL xp49 fun bq57 oq58 => ldI .u32 (rd Hx53 bq57 (oq58 + (k56 * 4))) fun x59 => ldI .i64 (rd Hx53 bq57 ((oq58 + (k56 * 4)) + 1)) fun x60 => ldI .u32 (rd Hx53 bq57 (((oq58 + (k56 * 4)) + 1) + 1)) fun x61 => ldI .i64 (rd Hx53 bq57 ((((oq58 + (k56 * 4)) + 1) + 1) + 1)) fun x62 => NEW Hx53 [.int .u32 (0 : Int), .int .i64 (0 : Int), .int .u32 (0 : Int), .int .i64 (0 : Int)] fun bq63 Hx64 => ST Hx64 bq63 0 (.int .u32 x59) fun Hx65 => ST Hx65 bq63 1 (.int .i64 x60) fun Hx66 => ST Hx66 bq63 2 (.int .u32 x61) fun Hx67 => ST Hx67 bq63 3 (.int .i64 x62) fun Hx68 => ldI .u32 (rd Hx68 bq63 0) fun x69 => ldI .i64 (rd Hx68 bq63 1) fun x70 => patch_isHunk_1.C x69 x70 bq13 bq17 bq15 Hx68 fun r71 Hx72 => bc ((!r71)) (K false Hx72) (ldI .u32 (rd Hx72 bq63 2) fun x76 => ldI .i64 (rd Hx72 bq63 3) fun x77 => patch_isHunk_1.C x76 x77 bq13 bq17 bq15 Hx72 fun r78 Hx79 => bc ((!r78)) (K false Hx79) (ldI .u32 (rd Hx79 bq63 0) fun x83 => ldI .i64 (rd Hx79 bq63 1) fun x84 => ldI .u32 (rd Hx79 bq63 2) fun x85 => ldI .i64 (rd Hx79 bq63 3) fun x86 => bc (((decide (x83 = x85)) && (decide (x84 = x86)))) (K false Hx79) (CHK .i64 (t52 + (1 : Int)) fun x88 => Iq54 x88 Hx79 ∧ mu55 x88 Hx79 < mu55 t52 Hx53)))) (ldL (rd Hx53 bq15 3) fun xp90 xl91 _ => ∃ (Iq95 : Int → Hp → Prop) (mu96 : Int → Hp → Nat), Iq95 (0 : Int) Hx53 ∧ ∀ (t93 : Int) (Hx94 : Hp), Iq95 t93 Hx94 → bc ((decide (t93 < ((xl91 : Nat) : Int)))) (IDX t93 xl91 fun k97 => NIL xp90 fun bq98 oq99 => ldI .u32 (rd Hx94 bq98 (oq99 + (k97 * 2))) fun x100 => ldI .i64 (rd Hx94 bq98 ((oq99 + (k97 * 2)) + 1)) fun x101 => NEW Hx94 [.int .u32 (0 : Int), .int .i64 (0 : Int)] fun bq102 Hx103 => ST Hx103 bq102 0 (.int .u32 x100) fun Hx104 => ST Hx104 bq102 1 (.int .i64 x101) fun Hx105 => ldI .u32 (rd Hx105 bq102 0) fun x106 => ldI .i64 (rd Hx105 bq102 1) fun x107 => patch_isHunk_1.C x106 x107 bq13 bq17 bq15 Hx105 fun r108 Hx109 => bc ((!r108)) (K false Hx109) (ldI .u32 (rd Hx109 bq102 0) fun x113 => ldI .u32 (rd Hx109 bq13 0) fun x114 => bc ((decide (x113 = x114))) (K false Hx109) (CHK .i64 (t93 + (1 : Int)) fun x116 => Iq95 x116 Hx109 ∧ mu96 x116 Hx109 < mu96 t93 Hx94))) (ldL (rd Hx94 bq15 2) fun xp118 xl119 xc120 => patch_rises_api_Edge.C xp118 xl119 xc120 (.func (.func 67) ⟨[]⟩ ⟨[]⟩) Hx94 fun r121 Hx122 => bc (r121) (ldL (rd Hx122 bq15 3) fun xp127 xl128 xc129 => patch_rises_api_LineID.C xp127 xl128 xc129 (.func (.func 69) ⟨[]⟩ ⟨[]⟩) Hx122 fun r130 Hx131 => K r130 Hx131) (K false Hx122))))
def patch_isHunk.F (id1 : Int) (h2 : ByteArray) (hp3 : Option Addr) (hl4 : Nat) (hc5 : Nat) (hp6 : Option Addr) (hl7 : Nat) (hc8 : Nat) (hp9 : Option Addr) (hl10 : Nat) (hc11 : Nat) (fromq12 : Int) (H : Hp) (K : Bool → Hp → Prop) : Prop :=
  NEW H [.int .u32 id1] fun bq13 Hx14 => NEW Hx14 [.string h2, .slice hp3 hl4 hc5, .slice hp6 hl7 hc8, .slice hp9 hl10 hc11] fun bq15 Hx16 => NEW Hx16 [.int .i64 fromq12] fun bq17 Hx18 => ldL (rd Hx18 bq15 1) fun _ xl20 _ => bc ((decide ((40 : Int) < ((xl20 : Nat) : Int)))) (K false Hx18) (ldL (rd Hx18 bq15 2) fun _ xl24 _ => bc ((decide ((80 : Int) < ((xl24 : Nat) : Int)))) (K false Hx18) (ldL (rd Hx18 bq15 3) fun _ xl28 _ => bc ((decide ((40 : Int) < ((xl28 : Nat) : Int)))) (K false Hx18) (patch_isHunk.k1 K bq13 bq15 bq17 Hx18)))
theorem patch_isHunk.vc (id1 : Int) (h2 : ByteArray) (hp3 : Option Addr) (hl4 : Nat) (hc5 : Nat) (hp6 : Option Addr) (hl7 : Nat) (hc8 : Nat) (hp9 : Option Addr) (hl10 : Nat) (hc11 : Nat) (fromq12 : Int) (H : Hp) (K : Bool → Hp → Prop) : vcFun prog tab patch_isHunk.ann none Try.f34 (List.map AV.v [.int .u32 id1, .agg ⟨[.string h2, .slice hp3 hl4 hc5, .slice hp6 hl7 hc8, .slice hp9 hl10 hc11]⟩, .int .i64 fromq12]) H (fun v H2 _ => liftB v fun r138 => K r138 H2) = patch_isHunk.F id1 h2 hp3 hl4 hc5 hp6 hl7 hc8 hp9 hl10 hc11 fromq12 H K := by kernel_rfl
theorem patch_isHunk.of (id1 : Int) (h2 : ByteArray) (hp3 : Option Addr) (hl4 : Nat) (hc5 : Nat) (hp6 : Option Addr) (hl7 : Nat) (hc8 : Nat) (hp9 : Option Addr) (hl10 : Nat) (hc11 : Nat) (fromq12 : Int) {H : Hp} {K : Bool → Hp → Prop} (h : patch_isHunk.F id1 h2 hp3 hl4 hc5 hp6 hl7 hc8 hp9 hl10 hc11 fromq12 H K) : patch_isHunk.C id1 h2 hp3 hl4 hc5 hp6 hl7 hc8 hp9 hl10 hc11 fromq12 H K := CallH_of_vc mix tabOk Try.func34 (by kernel_rfl) ((patch_isHunk.vc id1 h2 hp3 hl4 hc5 hp6 hl7 hc8 hp9 hl10 hc11 fromq12 H K).mpr h)
-- cento/codec.row[uint32] (35)
def codec_row_uint32.ann : Ann := { loops := [(0, [(14, .one (.int .i64))])], pars := [] }
def codec_row_uint32.F (lp1 : Option Addr) (ll2 : Nat) (_lc3 : Nat) (one4 : Value) (H : Hp) (K : ByteArray → Hp → Prop) : Prop :=
  NEW H ([.pointer none, .slice none 0 0] ++ [tyM 75 0 0]) fun bq5 Hx6 => codec_Num.C ((ll2 : Nat) : Int) Hx6 fun r7 Hx8 => strings_Builder_WriteString.C (some ⟨bq5, 0, none⟩) r7 Hx8 fun _ _ Hx12 => ∃ (Iq17 : Int → Hp → Prop) (mu18 : Int → Hp → Nat), Iq17 (0 : Int) Hx12 ∧ ∀ (t15 : Int) (Hx16 : Hp), Iq17 t15 Hx16 → bc ((decide (t15 < ((ll2 : Nat) : Int)))) (IDX t15 ll2 fun k19 => NIL lp1 fun bq20 oq21 => ldI .u32 (rd Hx16 bq20 (oq21 + k19)) fun x22 => CallV prog one4 [.int .u32 x22] Hx16 fun v Hx24 => liftS v fun r23 => strings_Builder_WriteString.C (some ⟨bq5, 0, none⟩) r23 Hx24 fun _ _ Hx27 => CHK .i64 (t15 + (1 : Int)) fun x30 => Iq17 x30 Hx27 ∧ mu18 x30 Hx27 < mu18 t15 Hx16) (strings_Builder_String.C (some ⟨bq5, 0, none⟩) Hx16 fun r32 Hx33 => K r32 Hx33)
theorem codec_row_uint32.vc (lp1 : Option Addr) (ll2 : Nat) (lc3 : Nat) (one4 : Value) (H : Hp) (K : ByteArray → Hp → Prop) : vcFun prog tab codec_row_uint32.ann none Try.f35 (List.map AV.v [.slice lp1 ll2 lc3, one4]) H (fun v H2 _ => liftS v fun r36 => K r36 H2) = codec_row_uint32.F lp1 ll2 lc3 one4 H K := by kernel_rfl
theorem codec_row_uint32.of (lp1 : Option Addr) (ll2 : Nat) (lc3 : Nat) (one4 : Value) {H : Hp} {K : ByteArray → Hp → Prop} (h : codec_row_uint32.F lp1 ll2 lc3 one4 H K) : codec_row_uint32.C lp1 ll2 lc3 one4 H K := CallH_of_vc mix tabOk Try.func35 (by kernel_rfl) ((codec_row_uint32.vc lp1 ll2 lc3 one4 H K).mpr h)
-- cento/codec.row[string] (36)
def codec_row_string.ann : Ann := { loops := [(0, [(14, .one (.int .i64))])], pars := [] }
def codec_row_string.F (lp1 : Option Addr) (ll2 : Nat) (_lc3 : Nat) (one4 : Value) (H : Hp) (K : ByteArray → Hp → Prop) : Prop :=
  NEW H ([.pointer none, .slice none 0 0] ++ [tyM 75 0 0]) fun bq5 Hx6 => codec_Num.C ((ll2 : Nat) : Int) Hx6 fun r7 Hx8 => strings_Builder_WriteString.C (some ⟨bq5, 0, none⟩) r7 Hx8 fun _ _ Hx12 => ∃ (Iq17 : Int → Hp → Prop) (mu18 : Int → Hp → Nat), Iq17 (0 : Int) Hx12 ∧ ∀ (t15 : Int) (Hx16 : Hp), Iq17 t15 Hx16 → bc ((decide (t15 < ((ll2 : Nat) : Int)))) (IDX t15 ll2 fun k19 => NIL lp1 fun bq20 oq21 => ldS (rd Hx16 bq20 (oq21 + k19)) fun x22 => CallV prog one4 [.string x22] Hx16 fun v Hx24 => liftS v fun r23 => strings_Builder_WriteString.C (some ⟨bq5, 0, none⟩) r23 Hx24 fun _ _ Hx27 => CHK .i64 (t15 + (1 : Int)) fun x30 => Iq17 x30 Hx27 ∧ mu18 x30 Hx27 < mu18 t15 Hx16) (strings_Builder_String.C (some ⟨bq5, 0, none⟩) Hx16 fun r32 Hx33 => K r32 Hx33)
theorem codec_row_string.vc (lp1 : Option Addr) (ll2 : Nat) (lc3 : Nat) (one4 : Value) (H : Hp) (K : ByteArray → Hp → Prop) : vcFun prog tab codec_row_string.ann none Try.f36 (List.map AV.v [.slice lp1 ll2 lc3, one4]) H (fun v H2 _ => liftS v fun r36 => K r36 H2) = codec_row_string.F lp1 ll2 lc3 one4 H K := by kernel_rfl
theorem codec_row_string.of (lp1 : Option Addr) (ll2 : Nat) (lc3 : Nat) (one4 : Value) {H : Hp} {K : ByteArray → Hp → Prop} (h : codec_row_string.F lp1 ll2 lc3 one4 H K) : codec_row_string.C lp1 ll2 lc3 one4 H K := CallH_of_vc mix tabOk Try.func36 (by kernel_rfl) ((codec_row_string.vc lp1 ll2 lc3 one4 H K).mpr h)
-- (*strings.Builder).WriteString (37)
def strings_Builder_WriteString.ann : Ann := { loops := [], pars := [] }
def strings_Builder_WriteString.F (bq1 : Option Addr) (s2 : ByteArray) (H : Hp) (K : Int → Value → Hp → Prop) : Prop :=
  strings_Builder_copyCheck.C bq1 H fun Hx3 => NIL bq1 fun bq5 oq6 => ldL (rd Hx3 bq5 (oq6 + 1)) fun xp7 xl8 xc9 => APP Hx3 te_uint8 xp7 xl8 xc9 (.string s2) fun xp10 xl11 xc12 Hx13 => NIL bq1 fun bq14 oq15 => ST Hx13 bq14 (oq15 + 1) (.slice xp10 xl11 xc12) fun Hx16 => K ((s2.size : Nat) : Int) (.nilIface) Hx16
theorem strings_Builder_WriteString.vc (bq1 : Option Addr) (s2 : ByteArray) (H : Hp) (K : Int → Value → Hp → Prop) : vcFun prog tab strings_Builder_WriteString.ann none Try.f37 (List.map AV.v [.pointer bq1, .string s2]) H (fun v H2 _ => tupV v fun vs => d2 vs fun wv0 wv1 => liftI .i64 wv0 fun r19 => (fun r20 => K r19 r20 H2) wv1) = strings_Builder_WriteString.F bq1 s2 H K := by kernel_rfl
theorem strings_Builder_WriteString.of (bq1 : Option Addr) (s2 : ByteArray) {H : Hp} {K : Int → Value → Hp → Prop} (h : strings_Builder_WriteString.F bq1 s2 H K) : strings_Builder_WriteString.C bq1 s2 H K := CallH_of_vc mix tabOk Try.func37 (by kernel_rfl) ((strings_Builder_WriteString.vc bq1 s2 H K).mpr h)
-- (*strings.Builder).String (38)
def strings_Builder_String.ann : Ann := { loops := [], pars := [] }
def strings_Builder_String.F (bq1 : Option Addr) (H : Hp) (K : ByteArray → Hp → Prop) : Prop :=
  NIL bq1 fun bq2 oq3 => ldL (rd H bq2 (oq3 + 1)) fun xp4 xl5 xc6 => NIL bq1 fun bq7 oq8 => ldL (rd H bq7 (oq8 + 1)) fun xp9 xl10 xc11 => BLT prog .unsafeSliceData [41] 111 [.slice xp4 xl5 xc6] H fun v Hx13 => liftP v fun x12 => rd Hx13 bq7 (oq8 + 1) = some (.slice xp9 xl10 xc11) ∧ (BLT prog .unsafeString [111, 3] 9 [.pointer x12, .int .i64 ((xl10 : Nat) : Int)] Hx13 fun v Hx15 => liftS v fun x14 => K x14 Hx15)
theorem strings_Builder_String.vc (bq1 : Option Addr) (H : Hp) (K : ByteArray → Hp → Prop) : vcFun prog tab strings_Builder_String.ann none Try.f38 (List.map AV.v [.pointer bq1]) H (fun v H2 _ => liftS v fun r17 => K r17 H2) = strings_Builder_String.F bq1 H K := by kernel_rfl
theorem strings_Builder_String.of (bq1 : Option Addr) {H : Hp} {K : ByteArray → Hp → Prop} (h : strings_Builder_String.F bq1 H K) : strings_Builder_String.C bq1 H K := CallH_of_vc mix tabOk Try.func38 (by kernel_rfl) ((strings_Builder_String.vc bq1 H K).mpr h)
-- cento/codec.row[cento/api.Edge] (39)
def codec_row_api_Edge.ann : Ann := { loops := [(0, [(14, .one (.int .i64))])], pars := [] }
def codec_row_api_Edge.F (lp1 : Option Addr) (ll2 : Nat) (_lc3 : Nat) (one4 : Value) (H : Hp) (K : ByteArray → Hp → Prop) : Prop :=
  NEW H ([.pointer none, .slice none 0 0] ++ [tyM 75 0 0]) fun bq5 Hx6 => codec_Num.C ((ll2 : Nat) : Int) Hx6 fun r7 Hx8 => strings_Builder_WriteString.C (some ⟨bq5, 0, none⟩) r7 Hx8 fun _ _ Hx12 => ∃ (Iq17 : Int → Hp → Prop) (mu18 : Int → Hp → Nat), Iq17 (0 : Int) Hx12 ∧ ∀ (t15 : Int) (Hx16 : Hp), Iq17 t15 Hx16 → bc ((decide (t15 < ((ll2 : Nat) : Int)))) (IDX t15 ll2 fun k19 => NIL lp1 fun bq20 oq21 => ldI .u32 (rd Hx16 bq20 (oq21 + (k19 * 4))) fun x22 => ldI .i64 (rd Hx16 bq20 ((oq21 + (k19 * 4)) + 1)) fun x23 => ldI .u32 (rd Hx16 bq20 (((oq21 + (k19 * 4)) + 1) + 1)) fun x24 => ldI .i64 (rd Hx16 bq20 ((((oq21 + (k19 * 4)) + 1) + 1) + 1)) fun x25 => NEW Hx16 [.int .u32 (0 : Int), .int .i64 (0 : Int), .int .u32 (0 : Int), .int .i64 (0 : Int)] fun bq26 Hx27 => ST Hx27 bq26 0 (.int .u32 x22) fun Hx28 => ST Hx28 bq26 1 (.int .i64 x23) fun Hx29 => ST Hx29 bq26 2 (.int .u32 x24) fun Hx30 => ST Hx30 bq26 3 (.int .i64 x25) fun Hx31 => ldI .u32 (rd Hx31 bq26 0) fun x32 => ldI .i64 (rd Hx31 bq26 1) fun x33 => ldI .u32 (rd Hx31 bq26 2) fun x34 => ldI .i64 (rd Hx31 bq26 3) fun x35 => CallV prog one4 [.agg ⟨[.int .u32 x32, .int .i64 x33, .int .u32 x34, .int .i64 x35]⟩] Hx31 fun v Hx37 => liftS v fun r36 => strings_Builder_WriteString.C (some ⟨bq5, 0, none⟩) r36 Hx37 fun _ _ Hx40 => CHK .i64 (t15 + (1 : Int)) fun x43 => Iq17 x43 Hx40 ∧ mu18 x43 Hx40 < mu18 t15 Hx16) (strings_Builder_String.C (some ⟨bq5, 0, none⟩) Hx16 fun r45 Hx46 => K r45 Hx46)
theorem codec_row_api_Edge.vc (lp1 : Option Addr) (ll2 : Nat) (lc3 : Nat) (one4 : Value) (H : Hp) (K : ByteArray → Hp → Prop) : vcFun prog tab codec_row_api_Edge.ann none Try.f39 (List.map AV.v [.slice lp1 ll2 lc3, one4]) H (fun v H2 _ => liftS v fun r49 => K r49 H2) = codec_row_api_Edge.F lp1 ll2 lc3 one4 H K := by kernel_rfl
theorem codec_row_api_Edge.of (lp1 : Option Addr) (ll2 : Nat) (lc3 : Nat) (one4 : Value) {H : Hp} {K : ByteArray → Hp → Prop} (h : codec_row_api_Edge.F lp1 ll2 lc3 one4 H K) : codec_row_api_Edge.C lp1 ll2 lc3 one4 H K := CallH_of_vc mix tabOk Try.func39 (by kernel_rfl) ((codec_row_api_Edge.vc lp1 ll2 lc3 one4 H K).mpr h)
-- cento/codec.edge (40)
def codec_edge.ann : Ann := { loops := [], pars := [] }
def codec_edge.F (e1 : Int) (e2 : Int) (e3 : Int) (e4 : Int) (H : Hp) (K : ByteArray → Hp → Prop) : Prop :=
  NEW H [.int .u32 e1, .int .i64 e2, .int .u32 e3, .int .i64 e4] fun bq5 Hx6 => ldI .u32 (rd Hx6 bq5 0) fun x7 => ldI .i64 (rd Hx6 bq5 1) fun x8 => ldI .u32 (rd Hx6 bq5 2) fun x9 => ldI .i64 (rd Hx6 bq5 3) fun x10 => codec_line.C x7 x8 Hx6 fun r11 Hx12 => rd Hx12 bq5 2 = some (.int .u32 x9) ∧ (rd Hx12 bq5 3 = some (.int .i64 x10) ∧ (codec_line.C x9 x10 Hx12 fun r15 Hx16 => ((r11.size + r15.size : Nat) : Int) ≤ 9223372036854775807 ∧ (K (r11 ++ r15) Hx16)))
theorem codec_edge.vc (e1 : Int) (e2 : Int) (e3 : Int) (e4 : Int) (H : Hp) (K : ByteArray → Hp → Prop) : vcFun prog tab codec_edge.ann none Try.f40 (List.map AV.v [.agg ⟨[.int .u32 e1, .int .i64 e2, .int .u32 e3, .int .i64 e4]⟩]) H (fun v H2 _ => liftS v fun r20 => K r20 H2) = codec_edge.F e1 e2 e3 e4 H K := by kernel_rfl
theorem codec_edge.of (e1 : Int) (e2 : Int) (e3 : Int) (e4 : Int) {H : Hp} {K : ByteArray → Hp → Prop} (h : codec_edge.F e1 e2 e3 e4 H K) : codec_edge.C e1 e2 e3 e4 H K := CallH_of_vc mix tabOk Try.func40 (by kernel_rfl) ((codec_edge.vc e1 e2 e3 e4 H K).mpr h)
-- cento/codec.row[cento/api.LineID] (41)
def codec_row_api_LineID.ann : Ann := { loops := [(0, [(14, .one (.int .i64))])], pars := [] }
def codec_row_api_LineID.F (lp1 : Option Addr) (ll2 : Nat) (_lc3 : Nat) (one4 : Value) (H : Hp) (K : ByteArray → Hp → Prop) : Prop :=
  NEW H ([.pointer none, .slice none 0 0] ++ [tyM 75 0 0]) fun bq5 Hx6 => codec_Num.C ((ll2 : Nat) : Int) Hx6 fun r7 Hx8 => strings_Builder_WriteString.C (some ⟨bq5, 0, none⟩) r7 Hx8 fun _ _ Hx12 => ∃ (Iq17 : Int → Hp → Prop) (mu18 : Int → Hp → Nat), Iq17 (0 : Int) Hx12 ∧ ∀ (t15 : Int) (Hx16 : Hp), Iq17 t15 Hx16 → bc ((decide (t15 < ((ll2 : Nat) : Int)))) (IDX t15 ll2 fun k19 => NIL lp1 fun bq20 oq21 => ldI .u32 (rd Hx16 bq20 (oq21 + (k19 * 2))) fun x22 => ldI .i64 (rd Hx16 bq20 ((oq21 + (k19 * 2)) + 1)) fun x23 => NEW Hx16 [.int .u32 (0 : Int), .int .i64 (0 : Int)] fun bq24 Hx25 => ST Hx25 bq24 0 (.int .u32 x22) fun Hx26 => ST Hx26 bq24 1 (.int .i64 x23) fun Hx27 => ldI .u32 (rd Hx27 bq24 0) fun x28 => ldI .i64 (rd Hx27 bq24 1) fun x29 => CallV prog one4 [.agg ⟨[.int .u32 x28, .int .i64 x29]⟩] Hx27 fun v Hx31 => liftS v fun r30 => strings_Builder_WriteString.C (some ⟨bq5, 0, none⟩) r30 Hx31 fun _ _ Hx34 => CHK .i64 (t15 + (1 : Int)) fun x37 => Iq17 x37 Hx34 ∧ mu18 x37 Hx34 < mu18 t15 Hx16) (strings_Builder_String.C (some ⟨bq5, 0, none⟩) Hx16 fun r39 Hx40 => K r39 Hx40)
theorem codec_row_api_LineID.vc (lp1 : Option Addr) (ll2 : Nat) (lc3 : Nat) (one4 : Value) (H : Hp) (K : ByteArray → Hp → Prop) : vcFun prog tab codec_row_api_LineID.ann none Try.f41 (List.map AV.v [.slice lp1 ll2 lc3, one4]) H (fun v H2 _ => liftS v fun r43 => K r43 H2) = codec_row_api_LineID.F lp1 ll2 lc3 one4 H K := by kernel_rfl
theorem codec_row_api_LineID.of (lp1 : Option Addr) (ll2 : Nat) (lc3 : Nat) (one4 : Value) {H : Hp} {K : ByteArray → Hp → Prop} (h : codec_row_api_LineID.F lp1 ll2 lc3 one4 H K) : codec_row_api_LineID.C lp1 ll2 lc3 one4 H K := CallH_of_vc mix tabOk Try.func41 (by kernel_rfl) ((codec_row_api_LineID.vc lp1 ll2 lc3 one4 H K).mpr h)
-- cento/codec.line (42)
def codec_line.ann : Ann := { loops := [], pars := [] }
def codec_line.F (l1 : Int) (l2 : Int) (H : Hp) (K : ByteArray → Hp → Prop) : Prop :=
  NEW H [.int .u32 l1, .int .i64 l2] fun bq3 Hx4 => ldI .u32 (rd Hx4 bq3 0) fun x5 => ldI .i64 (rd Hx4 bq3 1) fun x6 => codec_id.C x5 Hx4 fun r7 Hx8 => rd Hx8 bq3 1 = some (.int .i64 x6) ∧ (codec_Num.C x6 Hx8 fun r10 Hx11 => ((r7.size + r10.size : Nat) : Int) ≤ 9223372036854775807 ∧ (K (r7 ++ r10) Hx11))
theorem codec_line.vc (l1 : Int) (l2 : Int) (H : Hp) (K : ByteArray → Hp → Prop) : vcFun prog tab codec_line.ann none Try.f42 (List.map AV.v [.agg ⟨[.int .u32 l1, .int .i64 l2]⟩]) H (fun v H2 _ => liftS v fun r14 => K r14 H2) = codec_line.F l1 l2 H K := by kernel_rfl
theorem codec_line.of (l1 : Int) (l2 : Int) {H : Hp} {K : ByteArray → Hp → Prop} (h : codec_line.F l1 l2 H K) : codec_line.C l1 l2 H K := CallH_of_vc mix tabOk Try.func42 (by kernel_rfl) ((codec_line.vc l1 l2 H K).mpr h)
-- (*cento/codec.Reader).Num (43)
def codec_Reader_Num.ann : Ann := { loops := [], pars := [] }
def codec_Reader_Num.F (r1 : Option Addr) (most2 : Int) (H : Hp) (K : Int → Hp → Prop) : Prop :=
  NIL r1 fun bq3 oq4 => ldS (rd H bq3 oq4) fun x5 => codec_Digit.C x5 H fun r6 r7 r8 Hx9 => bc ((!r8)) (NIL r1 fun bq11 oq12 => ST Hx9 bq11 (oq12 + 1) (.bool true) fun Hx13 => K (0 : Int) Hx13) (bc ((decide (most2 < r6))) (NIL r1 fun bq15 oq16 => ST Hx9 bq15 (oq16 + 1) (.bool true) fun Hx17 => K (0 : Int) Hx17) (NIL r1 fun bq19 oq20 => ST Hx9 bq19 oq20 (.string r7) fun Hx21 => K r6 Hx21))
theorem codec_Reader_Num.vc (r1 : Option Addr) (most2 : Int) (H : Hp) (K : Int → Hp → Prop) : vcFun prog tab codec_Reader_Num.ann none Try.f43 (List.map AV.v [.pointer r1, .int .i64 most2]) H (fun v H2 _ => liftI .i64 v fun r23 => K r23 H2) = codec_Reader_Num.F r1 most2 H K := by kernel_rfl
theorem codec_Reader_Num.of (r1 : Option Addr) (most2 : Int) {H : Hp} {K : Int → Hp → Prop} (h : codec_Reader_Num.F r1 most2 H K) : codec_Reader_Num.C r1 most2 H K := CallH_of_vc mix tabOk Try.func43 (by kernel_rfl) ((codec_Reader_Num.vc r1 most2 H K).mpr h)
-- cento/codec.Row[uint32] (44)
def codec_Row_uint32.ann : Ann := { loops := [(0, [(7, .one .slice), (13, .one (.int .i64))])], pars := [] }
def codec_Row_uint32.F (r1 : Option Addr) (most2 : Int) (one3 : Value) (H : Hp) (K : Option Addr → Nat → Nat → Hp → Prop) : Prop :=
  codec_Reader_Num.C r1 most2 H fun r4 Hx5 => ∃ (Iq13 : Option Addr → Nat → Nat → Int → Hp → Prop) (mu14 : Option Addr → Nat → Nat → Int → Hp → Nat), Iq13 none 0 0 (0 : Int) Hx5 ∧ ∀ (outp8 : Option Addr) (outl9 : Nat) (outc10 : Nat) (t11 : Int) (Hx12 : Hp), Iq13 outp8 outl9 outc10 t11 Hx12 → bc ((decide (t11 < r4))) (NIL r1 fun bq15 oq16 => ldB (rd Hx12 bq15 (oq16 + 1)) fun x17 => bc (x17) (K outp8 outl9 outc10 Hx12) (CallV prog one3 [] Hx12 fun v Hx22 => liftI .u32 v fun r21 => NEW Hx22 ([.int .u32 r21]) fun bq23 Hx24 => APP Hx24 te_uint32 outp8 outl9 outc10 (.slice (some ⟨bq23, 0, none⟩) 1 1) fun xp25 xl26 xc27 Hx28 => CHK .i64 (t11 + (1 : Int)) fun x29 => Iq13 xp25 xl26 xc27 x29 Hx28 ∧ mu14 xp25 xl26 xc27 x29 Hx28 < mu14 outp8 outl9 outc10 t11 Hx12)) (K outp8 outl9 outc10 Hx12)
theorem codec_Row_uint32.vc (r1 : Option Addr) (most2 : Int) (one3 : Value) (H : Hp) (K : Option Addr → Nat → Nat → Hp → Prop) : vcFun prog tab codec_Row_uint32.ann none Try.f44 (List.map AV.v [.pointer r1, .int .i64 most2, one3]) H (fun v H2 _ => liftL v fun rp37 rl38 rc39 => K rp37 rl38 rc39 H2) = codec_Row_uint32.F r1 most2 one3 H K := by kernel_rfl
theorem codec_Row_uint32.of (r1 : Option Addr) (most2 : Int) (one3 : Value) {H : Hp} {K : Option Addr → Nat → Nat → Hp → Prop} (h : codec_Row_uint32.F r1 most2 one3 H K) : codec_Row_uint32.C r1 most2 one3 H K := CallH_of_vc mix tabOk Try.func44 (by kernel_rfl) ((codec_Row_uint32.vc r1 most2 one3 H K).mpr h)
-- cento/codec.Row[string] (45)
def codec_Row_string.ann : Ann := { loops := [(0, [(7, .one .slice), (13, .one (.int .i64))])], pars := [] }
def codec_Row_string.F (r1 : Option Addr) (most2 : Int) (one3 : Value) (H : Hp) (K : Option Addr → Nat → Nat → Hp → Prop) : Prop :=
  codec_Reader_Num.C r1 most2 H fun r4 Hx5 => ∃ (Iq13 : Option Addr → Nat → Nat → Int → Hp → Prop) (mu14 : Option Addr → Nat → Nat → Int → Hp → Nat), Iq13 none 0 0 (0 : Int) Hx5 ∧ ∀ (outp8 : Option Addr) (outl9 : Nat) (outc10 : Nat) (t11 : Int) (Hx12 : Hp), Iq13 outp8 outl9 outc10 t11 Hx12 → bc ((decide (t11 < r4))) (NIL r1 fun bq15 oq16 => ldB (rd Hx12 bq15 (oq16 + 1)) fun x17 => bc (x17) (K outp8 outl9 outc10 Hx12) (CallV prog one3 [] Hx12 fun v Hx22 => liftS v fun r21 => NEW Hx22 ([.string r21]) fun bq23 Hx24 => APP Hx24 te_string outp8 outl9 outc10 (.slice (some ⟨bq23, 0, none⟩) 1 1) fun xp25 xl26 xc27 Hx28 => CHK .i64 (t11 + (1 : Int)) fun x29 => Iq13 xp25 xl26 xc27 x29 Hx28 ∧ mu14 xp25 xl26 xc27 x29 Hx28 < mu14 outp8 outl9 outc10 t11 Hx12)) (K outp8 outl9 outc10 Hx12)
theorem codec_Row_string.vc (r1 : Option Addr) (most2 : Int) (one3 : Value) (H : Hp) (K : Option Addr → Nat → Nat → Hp → Prop) : vcFun prog tab codec_Row_string.ann none Try.f45 (List.map AV.v [.pointer r1, .int .i64 most2, one3]) H (fun v H2 _ => liftL v fun rp37 rl38 rc39 => K rp37 rl38 rc39 H2) = codec_Row_string.F r1 most2 one3 H K := by kernel_rfl
theorem codec_Row_string.of (r1 : Option Addr) (most2 : Int) (one3 : Value) {H : Hp} {K : Option Addr → Nat → Nat → Hp → Prop} (h : codec_Row_string.F r1 most2 one3 H K) : codec_Row_string.C r1 most2 one3 H K := CallH_of_vc mix tabOk Try.func45 (by kernel_rfl) ((codec_Row_string.vc r1 most2 one3 H K).mpr h)
-- (*cento/codec.Reader).Paths$1 (46)
def codec_Reader_Paths_1.ann : Ann := { loops := [], pars := [] }
def codec_Reader_Paths_1.F (cap1 : Nat) (H : Hp) (K : ByteArray → Hp → Prop) : Prop :=
  ldP (rd H cap1 0) fun x2 => codec_Reader_Text.C x2 (20 : Int) H fun r3 Hx4 => K r3 Hx4
theorem codec_Reader_Paths_1.vc (cap1 : Nat) (H : Hp) (K : ByteArray → Hp → Prop) : vcFun prog tab codec_Reader_Paths_1.ann none Try.f46 (List.map AV.v [.pointer (some ⟨cap1, 0, none⟩)]) H (fun v H2 _ => liftS v fun r8 => K r8 H2) = codec_Reader_Paths_1.F cap1 H K := by kernel_rfl
theorem codec_Reader_Paths_1.of (cap1 : Nat) {H : Hp} {K : ByteArray → Hp → Prop} (h : codec_Reader_Paths_1.F cap1 H K) : codec_Reader_Paths_1.C cap1 H K := CallH_of_vc mix tabOk Try.func46 (by kernel_rfl) ((codec_Reader_Paths_1.vc cap1 H K).mpr h)
-- (*cento/codec.Reader).Text (47)
def codec_Reader_Text.ann : Ann := { loops := [], pars := [] }
def codec_Reader_Text.k1 (K : ByteArray → Hp → Prop) (r1 : Option Addr) (r3 : Int) (Hx21 : Hp) : Prop :=
  NIL r1 fun bq22 oq23 => ldS (rd Hx21 bq22 oq23) fun x24 => BND none (some r3) x24.size x24.size fun j25 k26 => NIL r1 fun bq27 oq28 => ldS (rd Hx21 bq27 oq28) fun x29 => BND (some r3) none x29.size x29.size fun j30 k31 => NIL r1 fun bq32 oq33 => ST Hx21 bq32 oq33 (.string (x29.extract j30 k31)) fun Hx34 => K (x24.extract j25 k26) Hx34
def codec_Reader_Text.F (r1 : Option Addr) (most2 : Int) (H : Hp) (K : ByteArray → Hp → Prop) : Prop :=
  codec_Reader_Num.C r1 most2 H fun r3 Hx4 => NIL r1 fun bq7 oq8 => ldB (rd Hx4 bq7 (oq8 + 1)) fun x9 => bc (x9) (NIL r1 fun bq10 oq11 => ST Hx4 bq10 (oq11 + 1) (.bool true) fun Hx12 => K (bs []) Hx12) (NIL r1 fun bq14 oq15 => ldS (rd Hx4 bq14 oq15) fun x16 => bc ((decide (((x16.size : Nat) : Int) < r3))) (NIL r1 fun bq17 oq18 => ST Hx4 bq17 (oq18 + 1) (.bool true) fun Hx19 => K (bs []) Hx19) (codec_Reader_Text.k1 K r1 r3 Hx4))
theorem codec_Reader_Text.vc (r1 : Option Addr) (most2 : Int) (H : Hp) (K : ByteArray → Hp → Prop) : vcFun prog tab codec_Reader_Text.ann none Try.f47 (List.map AV.v [.pointer r1, .int .i64 most2]) H (fun v H2 _ => liftS v fun r36 => K r36 H2) = codec_Reader_Text.F r1 most2 H K := by kernel_rfl
theorem codec_Reader_Text.of (r1 : Option Addr) (most2 : Int) {H : Hp} {K : ByteArray → Hp → Prop} (h : codec_Reader_Text.F r1 most2 H K) : codec_Reader_Text.C r1 most2 H K := CallH_of_vc mix tabOk Try.func47 (by kernel_rfl) ((codec_Reader_Text.vc r1 most2 H K).mpr h)
-- (*cento/codec.Reader).hunk$1 (48)
def codec_Reader_hunk_1.ann : Ann := { loops := [], pars := [] }
def codec_Reader_hunk_1.F (cap1 : Nat) (H : Hp) (K : ByteArray → Hp → Prop) : Prop :=
  ldP (rd H cap1 0) fun x2 => codec_Reader_Text.C x2 (60 : Int) H fun r3 Hx4 => K r3 Hx4
theorem codec_Reader_hunk_1.vc (cap1 : Nat) (H : Hp) (K : ByteArray → Hp → Prop) : vcFun prog tab codec_Reader_hunk_1.ann none Try.f48 (List.map AV.v [.pointer (some ⟨cap1, 0, none⟩)]) H (fun v H2 _ => liftS v fun r8 => K r8 H2) = codec_Reader_hunk_1.F cap1 H K := by kernel_rfl
theorem codec_Reader_hunk_1.of (cap1 : Nat) {H : Hp} {K : ByteArray → Hp → Prop} (h : codec_Reader_hunk_1.F cap1 H K) : codec_Reader_hunk_1.C cap1 H K := CallH_of_vc mix tabOk Try.func48 (by kernel_rfl) ((codec_Reader_hunk_1.vc cap1 H K).mpr h)
-- cento/codec.Row[cento/api.Edge] (49)
def codec_Row_api_Edge.ann : Ann := { loops := [(0, [(7, .one .slice), (13, .one (.int .i64))])], pars := [] }
def codec_Row_api_Edge.F (r1 : Option Addr) (most2 : Int) (one3 : Value) (H : Hp) (K : Option Addr → Nat → Nat → Hp → Prop) : Prop :=
  codec_Reader_Num.C r1 most2 H fun r4 Hx5 => ∃ (Iq13 : Option Addr → Nat → Nat → Int → Hp → Prop) (mu14 : Option Addr → Nat → Nat → Int → Hp → Nat), Iq13 none 0 0 (0 : Int) Hx5 ∧ ∀ (outp8 : Option Addr) (outl9 : Nat) (outc10 : Nat) (t11 : Int) (Hx12 : Hp), Iq13 outp8 outl9 outc10 t11 Hx12 → bc ((decide (t11 < r4))) (NIL r1 fun bq15 oq16 => ldB (rd Hx12 bq15 (oq16 + 1)) fun x17 => bc (x17) (K outp8 outl9 outc10 Hx12) (CallV prog one3 [] Hx12 fun v Hx25 => aggV v fun cs => d4 cs fun wv0 wv1 wv2 wv3 => liftI .u32 wv0 fun r21 => liftI .i64 wv1 fun r22 => liftI .u32 wv2 fun r23 => liftI .i64 wv3 fun r24 => NEW Hx25 ([.int .u32 r21, .int .i64 r22, .int .u32 r23, .int .i64 r24]) fun bq26 Hx27 => APP Hx27 te_api_Edge outp8 outl9 outc10 (.slice (some ⟨bq26, 0, none⟩) 1 1) fun xp28 xl29 xc30 Hx31 => CHK .i64 (t11 + (1 : Int)) fun x32 => Iq13 xp28 xl29 xc30 x32 Hx31 ∧ mu14 xp28 xl29 xc30 x32 Hx31 < mu14 outp8 outl9 outc10 t11 Hx12)) (K outp8 outl9 outc10 Hx12)
theorem codec_Row_api_Edge.vc (r1 : Option Addr) (most2 : Int) (one3 : Value) (H : Hp) (K : Option Addr → Nat → Nat → Hp → Prop) : vcFun prog tab codec_Row_api_Edge.ann none Try.f49 (List.map AV.v [.pointer r1, .int .i64 most2, one3]) H (fun v H2 _ => liftL v fun rp40 rl41 rc42 => K rp40 rl41 rc42 H2) = codec_Row_api_Edge.F r1 most2 one3 H K := by kernel_rfl
theorem codec_Row_api_Edge.of (r1 : Option Addr) (most2 : Int) (one3 : Value) {H : Hp} {K : Option Addr → Nat → Nat → Hp → Prop} (h : codec_Row_api_Edge.F r1 most2 one3 H K) : codec_Row_api_Edge.C r1 most2 one3 H K := CallH_of_vc mix tabOk Try.func49 (by kernel_rfl) ((codec_Row_api_Edge.vc r1 most2 one3 H K).mpr h)
-- (*cento/codec.Reader).hunk$2 (50)
def codec_Reader_hunk_2.ann : Ann := { loops := [], pars := [] }
def codec_Reader_hunk_2.F (cap1 : Nat) (H : Hp) (K : Int → Int → Int → Int → Hp → Prop) : Prop :=
  NEW H [.int .u32 (0 : Int), .int .i64 (0 : Int), .int .u32 (0 : Int), .int .i64 (0 : Int)] fun bq2 Hx3 => ldP (rd Hx3 cap1 0) fun x4 => ldP (rd Hx3 cap1 0) fun x5 => codec_Reader_line.C x4 Hx3 fun r6 r7 Hx8 => rd Hx8 cap1 0 = some (.pointer x5) ∧ (codec_Reader_line.C x5 Hx8 fun r10 r11 Hx12 => ST Hx12 bq2 0 (.int .u32 r6) fun Hx14 => ST Hx14 bq2 1 (.int .i64 r7) fun Hx15 => ST Hx15 bq2 2 (.int .u32 r10) fun Hx16 => ST Hx16 bq2 3 (.int .i64 r11) fun Hx17 => ldI .u32 (rd Hx17 bq2 0) fun r18 => ldI .i64 (rd Hx17 bq2 1) fun r19 => ldI .u32 (rd Hx17 bq2 2) fun r20 => ldI .i64 (rd Hx17 bq2 3) fun r21 => K r18 r19 r20 r21 Hx17)
theorem codec_Reader_hunk_2.vc (cap1 : Nat) (H : Hp) (K : Int → Int → Int → Int → Hp → Prop) : vcFun prog tab codec_Reader_hunk_2.ann none Try.f50 (List.map AV.v [.pointer (some ⟨cap1, 0, none⟩)]) H (fun v H2 _ => aggV v fun cs => d4 cs fun wv0 wv1 wv2 wv3 => liftI .u32 wv0 fun r26 => liftI .i64 wv1 fun r27 => liftI .u32 wv2 fun r28 => liftI .i64 wv3 fun r29 => K r26 r27 r28 r29 H2) = codec_Reader_hunk_2.F cap1 H K := by kernel_rfl
theorem codec_Reader_hunk_2.of (cap1 : Nat) {H : Hp} {K : Int → Int → Int → Int → Hp → Prop} (h : codec_Reader_hunk_2.F cap1 H K) : codec_Reader_hunk_2.C cap1 H K := CallH_of_vc mix tabOk Try.func50 (by kernel_rfl) ((codec_Reader_hunk_2.vc cap1 H K).mpr h)
-- (*cento/codec.Reader).line (51)
def codec_Reader_line.ann : Ann := { loops := [], pars := [] }
def codec_Reader_line.F (r1 : Option Addr) (H : Hp) (K : Int → Int → Hp → Prop) : Prop :=
  NEW H [.int .u32 (0 : Int), .int .i64 (0 : Int)] fun bq2 Hx3 => codec_Reader_ID.C r1 Hx3 fun r4 Hx5 => codec_Reader_Num.C r1 (40 : Int) Hx5 fun r7 Hx8 => ST Hx8 bq2 0 (.int .u32 r4) fun Hx11 => ST Hx11 bq2 1 (.int .i64 r7) fun Hx12 => ldI .u32 (rd Hx12 bq2 0) fun r13 => ldI .i64 (rd Hx12 bq2 1) fun r14 => K r13 r14 Hx12
theorem codec_Reader_line.vc (r1 : Option Addr) (H : Hp) (K : Int → Int → Hp → Prop) : vcFun prog tab codec_Reader_line.ann none Try.f51 (List.map AV.v [.pointer r1]) H (fun v H2 _ => aggV v fun cs => d2 cs fun wv0 wv1 => liftI .u32 wv0 fun r17 => liftI .i64 wv1 fun r18 => K r17 r18 H2) = codec_Reader_line.F r1 H K := by kernel_rfl
theorem codec_Reader_line.of (r1 : Option Addr) {H : Hp} {K : Int → Int → Hp → Prop} (h : codec_Reader_line.F r1 H K) : codec_Reader_line.C r1 H K := CallH_of_vc mix tabOk Try.func51 (by kernel_rfl) ((codec_Reader_line.vc r1 H K).mpr h)
-- cento/codec.Row[cento/api.LineID] (52)
def codec_Row_api_LineID.ann : Ann := { loops := [(0, [(7, .one .slice), (13, .one (.int .i64))])], pars := [] }
def codec_Row_api_LineID.F (r1 : Option Addr) (most2 : Int) (one3 : Value) (H : Hp) (K : Option Addr → Nat → Nat → Hp → Prop) : Prop :=
  codec_Reader_Num.C r1 most2 H fun r4 Hx5 => ∃ (Iq13 : Option Addr → Nat → Nat → Int → Hp → Prop) (mu14 : Option Addr → Nat → Nat → Int → Hp → Nat), Iq13 none 0 0 (0 : Int) Hx5 ∧ ∀ (outp8 : Option Addr) (outl9 : Nat) (outc10 : Nat) (t11 : Int) (Hx12 : Hp), Iq13 outp8 outl9 outc10 t11 Hx12 → bc ((decide (t11 < r4))) (NIL r1 fun bq15 oq16 => ldB (rd Hx12 bq15 (oq16 + 1)) fun x17 => bc (x17) (K outp8 outl9 outc10 Hx12) (CallV prog one3 [] Hx12 fun v Hx23 => aggV v fun cs => d2 cs fun wv0 wv1 => liftI .u32 wv0 fun r21 => liftI .i64 wv1 fun r22 => NEW Hx23 ([.int .u32 r21, .int .i64 r22]) fun bq24 Hx25 => APP Hx25 te_api_LineID outp8 outl9 outc10 (.slice (some ⟨bq24, 0, none⟩) 1 1) fun xp26 xl27 xc28 Hx29 => CHK .i64 (t11 + (1 : Int)) fun x30 => Iq13 xp26 xl27 xc28 x30 Hx29 ∧ mu14 xp26 xl27 xc28 x30 Hx29 < mu14 outp8 outl9 outc10 t11 Hx12)) (K outp8 outl9 outc10 Hx12)
theorem codec_Row_api_LineID.vc (r1 : Option Addr) (most2 : Int) (one3 : Value) (H : Hp) (K : Option Addr → Nat → Nat → Hp → Prop) : vcFun prog tab codec_Row_api_LineID.ann none Try.f52 (List.map AV.v [.pointer r1, .int .i64 most2, one3]) H (fun v H2 _ => liftL v fun rp38 rl39 rc40 => K rp38 rl39 rc40 H2) = codec_Row_api_LineID.F r1 most2 one3 H K := by kernel_rfl
theorem codec_Row_api_LineID.of (r1 : Option Addr) (most2 : Int) (one3 : Value) {H : Hp} {K : Option Addr → Nat → Nat → Hp → Prop} (h : codec_Row_api_LineID.F r1 most2 one3 H K) : codec_Row_api_LineID.C r1 most2 one3 H K := CallH_of_vc mix tabOk Try.func52 (by kernel_rfl) ((codec_Row_api_LineID.vc r1 most2 one3 H K).mpr h)
-- cento/patch.rises[string] (53)
def patch_rises_string.ann : Ann := { loops := [(0, [(5, .one (.int .i64))])], pars := [] }
def patch_rises_string.F (lp1 : Option Addr) (ll2 : Nat) (_lc3 : Nat) (compare4 : Value) (H : Hp) (K : Bool → Hp → Prop) : Prop :=
  ∃ (Iq7 : Int → Hp → Prop) (mu8 : Int → Hp → Nat), Iq7 (1 : Int) H ∧ ∀ (i5 : Int) (Hx6 : Hp), Iq7 i5 Hx6 → bc ((decide (i5 < ((ll2 : Nat) : Int)))) (CHK .i64 (i5 - (1 : Int)) fun x9 => IDX x9 ll2 fun k10 => NIL lp1 fun bq11 oq12 => ldS (rd Hx6 bq11 (oq12 + k10)) fun x13 => IDX i5 ll2 fun k14 => NIL lp1 fun bq15 oq16 => ldS (rd Hx6 bq15 (oq16 + k14)) fun x17 => CallV prog compare4 [.string x13, .string x17] Hx6 fun v Hx19 => liftI .i64 v fun r18 => bc ((decide ((0 : Int) ≤ r18))) (K false Hx19) (CHK .i64 (i5 + (1 : Int)) fun x21 => Iq7 x21 Hx19 ∧ mu8 x21 Hx19 < mu8 i5 Hx6)) (K true Hx6)
theorem patch_rises_string.vc (lp1 : Option Addr) (ll2 : Nat) (lc3 : Nat) (compare4 : Value) (H : Hp) (K : Bool → Hp → Prop) : vcFun prog tab patch_rises_string.ann none Try.f53 (List.map AV.v [.slice lp1 ll2 lc3, compare4]) H (fun v H2 _ => liftB v fun r24 => K r24 H2) = patch_rises_string.F lp1 ll2 lc3 compare4 H K := by kernel_rfl
theorem patch_rises_string.of (lp1 : Option Addr) (ll2 : Nat) (lc3 : Nat) (compare4 : Value) {H : Hp} {K : Bool → Hp → Prop} (h : patch_rises_string.F lp1 ll2 lc3 compare4 H K) : patch_rises_string.C lp1 ll2 lc3 compare4 H K := CallH_of_vc mix tabOk Try.func53 (by kernel_rfl) ((patch_rises_string.vc lp1 ll2 lc3 compare4 H K).mpr h)
-- cmp.Compare[string] (54)
def cmp_Compare_string.ann : Ann := { loops := [], pars := [] }
def cmp_Compare_string.F (x1 : ByteArray) (y2 : ByteArray) (H : Hp) (K : Int → Hp → Prop) : Prop :=
  cmp_isNaN_string.C x1 H fun r3 Hx4 => cmp_isNaN_string.C y2 Hx4 fun r6 Hx7 => bc (r3) (bc (r6) (K (0 : Int) Hx7) (K (-1 : Int) Hx7)) (bc (r6) (K (1 : Int) Hx7) (bc ((Op.bytesLess x1.toList y2.toList)) (K (-1 : Int) Hx7) (bc ((!((Op.bytesLess x1.toList y2.toList) || decide (x1 = y2)))) (K (1 : Int) Hx7) (K (0 : Int) Hx7))))
theorem cmp_Compare_string.vc (x1 : ByteArray) (y2 : ByteArray) (H : Hp) (K : Int → Hp → Prop) : vcFun prog tab cmp_Compare_string.ann none Try.f54 (List.map AV.v [.string x1, .string y2]) H (fun v H2 _ => liftI .i64 v fun r15 => K r15 H2) = cmp_Compare_string.F x1 y2 H K := by kernel_rfl
theorem cmp_Compare_string.of (x1 : ByteArray) (y2 : ByteArray) {H : Hp} {K : Int → Hp → Prop} (h : cmp_Compare_string.F x1 y2 H K) : cmp_Compare_string.C x1 y2 H K := CallH_of_vc mix tabOk Try.func54 (by kernel_rfl) ((cmp_Compare_string.vc x1 y2 H K).mpr h)
-- cento/patch.paths$1 (55)
def patch_paths_1.ann : Ann := { loops := [], pars := [] }
def patch_paths_1.F (s1 : ByteArray) (H : Hp) (K : Bool → Hp → Prop) : Prop :=
  patch_IsPath.C s1 H fun r2 Hx3 => K (!r2) Hx3
theorem patch_paths_1.vc (s1 : ByteArray) (H : Hp) (K : Bool → Hp → Prop) : vcFun prog tab patch_paths_1.ann none Try.f55 (List.map AV.v [.string s1]) H (fun v H2 _ => liftB v fun r6 => K r6 H2) = patch_paths_1.F s1 H K := by kernel_rfl
theorem patch_paths_1.of (s1 : ByteArray) {H : Hp} {K : Bool → Hp → Prop} (h : patch_paths_1.F s1 H K) : patch_paths_1.C s1 H K := CallH_of_vc mix tabOk Try.func55 (by kernel_rfl) ((patch_paths_1.vc s1 H K).mpr h)
-- cento/patch.rises[uint32] (56)
def patch_rises_uint32.ann : Ann := { loops := [(0, [(5, .one (.int .i64))])], pars := [] }
def patch_rises_uint32.F (lp1 : Option Addr) (ll2 : Nat) (_lc3 : Nat) (compare4 : Value) (H : Hp) (K : Bool → Hp → Prop) : Prop :=
  ∃ (Iq7 : Int → Hp → Prop) (mu8 : Int → Hp → Nat), Iq7 (1 : Int) H ∧ ∀ (i5 : Int) (Hx6 : Hp), Iq7 i5 Hx6 → bc ((decide (i5 < ((ll2 : Nat) : Int)))) (CHK .i64 (i5 - (1 : Int)) fun x9 => IDX x9 ll2 fun k10 => NIL lp1 fun bq11 oq12 => ldI .u32 (rd Hx6 bq11 (oq12 + k10)) fun x13 => IDX i5 ll2 fun k14 => NIL lp1 fun bq15 oq16 => ldI .u32 (rd Hx6 bq15 (oq16 + k14)) fun x17 => CallV prog compare4 [.int .u32 x13, .int .u32 x17] Hx6 fun v Hx19 => liftI .i64 v fun r18 => bc ((decide ((0 : Int) ≤ r18))) (K false Hx19) (CHK .i64 (i5 + (1 : Int)) fun x21 => Iq7 x21 Hx19 ∧ mu8 x21 Hx19 < mu8 i5 Hx6)) (K true Hx6)
theorem patch_rises_uint32.vc (lp1 : Option Addr) (ll2 : Nat) (lc3 : Nat) (compare4 : Value) (H : Hp) (K : Bool → Hp → Prop) : vcFun prog tab patch_rises_uint32.ann none Try.f56 (List.map AV.v [.slice lp1 ll2 lc3, compare4]) H (fun v H2 _ => liftB v fun r24 => K r24 H2) = patch_rises_uint32.F lp1 ll2 lc3 compare4 H K := by kernel_rfl
theorem patch_rises_uint32.of (lp1 : Option Addr) (ll2 : Nat) (lc3 : Nat) (compare4 : Value) {H : Hp} {K : Bool → Hp → Prop} (h : patch_rises_uint32.F lp1 ll2 lc3 compare4 H K) : patch_rises_uint32.C lp1 ll2 lc3 compare4 H K := CallH_of_vc mix tabOk Try.func56 (by kernel_rfl) ((patch_rises_uint32.vc lp1 ll2 lc3 compare4 H K).mpr h)
-- cmp.Compare[uint32] (57)
def cmp_Compare_uint32.ann : Ann := { loops := [], pars := [] }
def cmp_Compare_uint32.F (x1 : Int) (y2 : Int) (H : Hp) (K : Int → Hp → Prop) : Prop :=
  cmp_isNaN_uint32.C x1 H fun r3 Hx4 => cmp_isNaN_uint32.C y2 Hx4 fun r6 Hx7 => bc (r3) (bc (r6) (K (0 : Int) Hx7) (K (-1 : Int) Hx7)) (bc (r6) (K (1 : Int) Hx7) (bc ((decide (x1 < y2))) (K (-1 : Int) Hx7) (bc ((decide (y2 < x1))) (K (1 : Int) Hx7) (K (0 : Int) Hx7))))
theorem cmp_Compare_uint32.vc (x1 : Int) (y2 : Int) (H : Hp) (K : Int → Hp → Prop) : vcFun prog tab cmp_Compare_uint32.ann none Try.f57 (List.map AV.v [.int .u32 x1, .int .u32 y2]) H (fun v H2 _ => liftI .i64 v fun r15 => K r15 H2) = cmp_Compare_uint32.F x1 y2 H K := by kernel_rfl
theorem cmp_Compare_uint32.of (x1 : Int) (y2 : Int) {H : Hp} {K : Int → Hp → Prop} (h : cmp_Compare_uint32.F x1 y2 H K) : cmp_Compare_uint32.C x1 y2 H K := CallH_of_vc mix tabOk Try.func57 (by kernel_rfl) ((cmp_Compare_uint32.vc x1 y2 H K).mpr h)
-- slices.Contains[[]uint32,uint32] (58)
def slices_Contains_uint32_uint32.ann : Ann := { loops := [], pars := [] }
def slices_Contains_uint32_uint32.F (sp1 : Option Addr) (sl2 : Nat) (sc3 : Nat) (v4 : Int) (H : Hp) (K : Bool → Hp → Prop) : Prop :=
  slices_Index_uint32_uint32.C sp1 sl2 sc3 v4 H fun r5 Hx6 => K (decide ((0 : Int) ≤ r5)) Hx6
theorem slices_Contains_uint32_uint32.vc (sp1 : Option Addr) (sl2 : Nat) (sc3 : Nat) (v4 : Int) (H : Hp) (K : Bool → Hp → Prop) : vcFun prog tab slices_Contains_uint32_uint32.ann none Try.f58 (List.map AV.v [.slice sp1 sl2 sc3, .int .u32 v4]) H (fun v H2 _ => liftB v fun r12 => K r12 H2) = slices_Contains_uint32_uint32.F sp1 sl2 sc3 v4 H K := by kernel_rfl
theorem slices_Contains_uint32_uint32.of (sp1 : Option Addr) (sl2 : Nat) (sc3 : Nat) (v4 : Int) {H : Hp} {K : Bool → Hp → Prop} (h : slices_Contains_uint32_uint32.F sp1 sl2 sc3 v4 H K) : slices_Contains_uint32_uint32.C sp1 sl2 sc3 v4 H K := CallH_of_vc mix tabOk Try.func58 (by kernel_rfl) ((slices_Contains_uint32_uint32.vc sp1 sl2 sc3 v4 H K).mpr h)
-- slices.ContainsFunc[[]uint32,uint32] (59)
def slices_ContainsFunc_uint32_uint32.ann : Ann := { loops := [], pars := [] }
def slices_ContainsFunc_uint32_uint32.F (sp1 : Option Addr) (sl2 : Nat) (sc3 : Nat) (f4 : Value) (H : Hp) (K : Bool → Hp → Prop) : Prop :=
  slices_IndexFunc_uint32_uint32.C sp1 sl2 sc3 (f4) H fun r5 Hx6 => K (decide ((0 : Int) ≤ r5)) Hx6
theorem slices_ContainsFunc_uint32_uint32.vc (sp1 : Option Addr) (sl2 : Nat) (sc3 : Nat) (f4 : Value) (H : Hp) (K : Bool → Hp → Prop) : vcFun prog tab slices_ContainsFunc_uint32_uint32.ann none Try.f59 (List.map AV.v [.slice sp1 sl2 sc3, f4]) H (fun v H2 _ => liftB v fun r12 => K r12 H2) = slices_ContainsFunc_uint32_uint32.F sp1 sl2 sc3 f4 H K := by kernel_rfl
theorem slices_ContainsFunc_uint32_uint32.of (sp1 : Option Addr) (sl2 : Nat) (sc3 : Nat) (f4 : Value) {H : Hp} {K : Bool → Hp → Prop} (h : slices_ContainsFunc_uint32_uint32.F sp1 sl2 sc3 f4 H K) : slices_ContainsFunc_uint32_uint32.C sp1 sl2 sc3 f4 H K := CallH_of_vc mix tabOk Try.func59 (by kernel_rfl) ((slices_ContainsFunc_uint32_uint32.vc sp1 sl2 sc3 f4 H K).mpr h)
-- cento/patch.Needs (60)
def patch_Needs.ann : Ann := { loops := [(0, [(3, .one .slice), (13, .one (.int .i64))]), (2, [(3, .one .slice), (20, .one (.int .i64))]), (4, [(3, .one .slice), (37, .one (.int .i64))])], pars := [] }
def patch_Needs.F (p1 : Int) (pp2 : Option Addr) (pl3 : Nat) (pc4 : Nat) (pp5 : Option Addr) (pl6 : Nat) (pc7 : Nat) (pp8 : Option Addr) (pl9 : Nat) (pc10 : Nat) (pp11 : Option Addr) (pl12 : Nat) (pc13 : Nat) (H : Hp) (K : Option Addr → Nat → Nat → Hp → Prop) : Prop :=
  NEW H [.int .u32 p1, .slice pp2 pl3 pc4, .slice pp5 pl6 pc7, .slice pp8 pl9 pc10, .slice pp11 pl12 pc13] fun bq14 Hx15 => ldL (rd Hx15 bq14 4) fun xp16 xl17 _ => ∃ (Iq24 : Option Addr → Nat → Nat → Int → Hp → Prop) (mu25 : Option Addr → Nat → Nat → Int → Hp → Nat), Iq24 none 0 0 (0 : Int) Hx15 ∧ ∀ (outp19 : Option Addr) (outl20 : Nat) (outc21 : Nat) (t22 : Int) (Hx23 : Hp), Iq24 outp19 outl20 outc21 t22 Hx23 → bc ((decide (t22 < ((xl17 : Nat) : Int)))) (IDX t22 xl17 fun k26 => NIL xp16 fun bq27 oq28 => ldS (rd Hx23 bq27 (oq28 + (k26 * 4))) fun x29 => ldL (rd Hx23 bq27 ((oq28 + (k26 * 4)) + 1)) fun xp30 xl31 xc32 => ldL (rd Hx23 bq27 (((oq28 + (k26 * 4)) + 1) + 1)) fun xp33 xl34 xc35 => ldL (rd Hx23 bq27 ((((oq28 + (k26 * 4)) + 1) + 1) + 1)) fun xp36 xl37 xc38 => NEW Hx23 [.string .empty, .slice none 0 0, .slice none 0 0, .slice none 0 0] fun bq39 Hx40 => ST Hx40 bq39 0 (.string x29) fun Hx41 => ST Hx41 bq39 1 (.slice xp30 xl31 xc32) fun Hx42 => ST Hx42 bq39 2 (.slice xp33 xl34 xc35) fun Hx43 => ST Hx43 bq39 3 (.slice xp36 xl37 xc38) fun Hx44 => ldL (rd Hx44 bq39 2) fun xp45 xl46 _ => ∃ (Iq53 : Option Addr → Nat → Nat → Int → Hp → Prop) (mu54 : Option Addr → Nat → Nat → Int → Hp → Nat), Iq53 outp19 outl20 outc21 (0 : Int) Hx44 ∧ ∀ (outp48 : Option Addr) (outl49 : Nat) (outc50 : Nat) (t51 : Int) (Hx52 : Hp), Iq53 outp48 outl49 outc50 t51 Hx52 → bc ((decide (t51 < ((xl46 : Nat) : Int)))) (IDX t51 xl46 fun k55 => NIL xp45 fun bq56 oq57 => ldI .u32 (rd Hx52 bq56 (oq57 + (k55 * 4))) fun x58 => ldI .i64 (rd Hx52 bq56 ((oq57 + (k55 * 4)) + 1)) fun x59 => ldI .u32 (rd Hx52 bq56 (((oq57 + (k55 * 4)) + 1) + 1)) fun x60 => ldI .i64 (rd Hx52 bq56 ((((oq57 + (k55 * 4)) + 1) + 1) + 1)) fun x61 => NEW Hx52 [.int .u32 (0 : Int), .int .i64 (0 : Int), .int .u32 (0 : Int), .int .i64 (0 : Int)] fun bq62 Hx63 => ST Hx63 bq62 0 (.int .u32 x58) fun Hx64 => ST Hx64 bq62 1 (.int .i64 x59) fun Hx65 => ST Hx65 bq62 2 (.int .u32 x60) fun Hx66 => ST Hx66 bq62 3 (.int .i64 x61) fun Hx67 => ldI .u32 (rd Hx67 bq62 0) fun x68 => ldI .u32 (rd Hx67 bq62 2) fun x69 => NEW Hx67 ([.int .u32 x68, .int .u32 x69]) fun bq70 Hx71 => APP Hx71 te_uint32 outp48 outl49 outc50 (.slice (some ⟨bq70, 0, none⟩) 2 2) fun xp72 xl73 xc74 Hx75 => CHK .i64 (t51 + (1 : Int)) fun x76 => Iq53 xp72 xl73 xc74 x76 Hx75 ∧ mu54 xp72 xl73 xc74 x76 Hx75 < mu54 outp48 outl49 outc50 t51 Hx52) (ldL (rd Hx52 bq39 3) fun xp81 xl82 _ => ∃ (Iq89 : Option Addr → Nat → Nat → Int → Hp → Prop) (mu90 : Option Addr → Nat → Nat → Int → Hp → Nat), Iq89 outp48 outl49 outc50 (0 : Int) Hx52 ∧ ∀ (outp84 : Option Addr) (outl85 : Nat) (outc86 : Nat) (t87 : Int) (Hx88 : Hp), Iq89 outp84 outl85 outc86 t87 Hx88 → bc ((decide (t87 < ((xl82 : Nat) : Int)))) (IDX t87 xl82 fun k91 => NIL xp81 fun bq92 oq93 => ldI .u32 (rd Hx88 bq92 (oq93 + (k91 * 2))) fun x94 => ldI .i64 (rd Hx88 bq92 ((oq93 + (k91 * 2)) + 1)) fun x95 => NEW Hx88 [.int .u32 (0 : Int), .int .i64 (0 : Int)] fun bq96 Hx97 => ST Hx97 bq96 0 (.int .u32 x94) fun Hx98 => ST Hx98 bq96 1 (.int .i64 x95) fun Hx99 => ldI .u32 (rd Hx99 bq96 0) fun x100 => NEW Hx99 ([.int .u32 x100]) fun bq101 Hx102 => APP Hx102 te_uint32 outp84 outl85 outc86 (.slice (some ⟨bq101, 0, none⟩) 1 1) fun xp103 xl104 xc105 Hx106 => CHK .i64 (t87 + (1 : Int)) fun x107 => Iq89 xp103 xl104 xc105 x107 Hx106 ∧ mu90 xp103 xl104 xc105 x107 Hx106 < mu90 outp84 outl85 outc86 t87 Hx88) (CHK .i64 (t22 + (1 : Int)) fun x112 => Iq24 outp84 outl85 outc86 x112 Hx88 ∧ mu25 outp84 outl85 outc86 x112 Hx88 < mu25 outp19 outl20 outc21 t22 Hx23))) (slices_DeleteFunc_uint32_uint32.C outp19 outl20 outc21 (.func (.func 76) ⟨[]⟩ ⟨[.pointer (some ⟨bq14, 0, none⟩)]⟩) Hx23 fun rp117 rl118 rc119 Hx120 => slices_Sort_uint32_uint32.C rp117 rl118 rc119 Hx120 fun Hx125 => slices_Compact_uint32_uint32.C rp117 rl118 rc119 Hx125 fun rp129 rl130 rc131 Hx132 => K rp129 rl130 rc131 Hx132)
theorem patch_Needs.vc (p1 : Int) (pp2 : Option Addr) (pl3 : Nat) (pc4 : Nat) (pp5 : Option Addr) (pl6 : Nat) (pc7 : Nat) (pp8 : Option Addr) (pl9 : Nat) (pc10 : Nat) (pp11 : Option Addr) (pl12 : Nat) (pc13 : Nat) (H : Hp) (K : Option Addr → Nat → Nat → Hp → Prop) : vcFun prog tab patch_Needs.ann none Try.f60 (List.map AV.v [.agg ⟨[.int .u32 p1, .slice pp2 pl3 pc4, .slice pp5 pl6 pc7, .slice pp8 pl9 pc10, .slice pp11 pl12 pc13]⟩]) H (fun v H2 _ => liftL v fun rp139 rl140 rc141 => K rp139 rl140 rc141 H2) = patch_Needs.F p1 pp2 pl3 pc4 pp5 pl6 pc7 pp8 pl9 pc10 pp11 pl12 pc13 H K := by kernel_rfl
theorem patch_Needs.of (p1 : Int) (pp2 : Option Addr) (pl3 : Nat) (pc4 : Nat) (pp5 : Option Addr) (pl6 : Nat) (pc7 : Nat) (pp8 : Option Addr) (pl9 : Nat) (pc10 : Nat) (pp11 : Option Addr) (pl12 : Nat) (pc13 : Nat) {H : Hp} {K : Option Addr → Nat → Nat → Hp → Prop} (h : patch_Needs.F p1 pp2 pl3 pc4 pp5 pl6 pc7 pp8 pl9 pc10 pp11 pl12 pc13 H K) : patch_Needs.C p1 pp2 pl3 pc4 pp5 pl6 pc7 pp8 pl9 pc10 pp11 pl12 pc13 H K := CallH_of_vc mix tabOk Try.func60 (by kernel_rfl) ((patch_Needs.vc p1 pp2 pl3 pc4 pp5 pl6 pc7 pp8 pl9 pc10 pp11 pl12 pc13 H K).mpr h)
-- cento/patch.deps$1 (61)
def patch_deps_1.ann : Ann := { loops := [], pars := [] }
def patch_deps_1.F (id1 : Int) (cap2 : Nat) (H : Hp) (K : Bool → Hp → Prop) : Prop :=
  ldL (rd H cap2 1) fun xp3 xl4 xc5 => slices_Contains_uint32_uint32.C xp3 xl4 xc5 id1 H fun r6 Hx7 => K (!r6) Hx7
theorem patch_deps_1.vc (id1 : Int) (cap2 : Nat) (H : Hp) (K : Bool → Hp → Prop) : vcFun prog tab patch_deps_1.ann none Try.f61 (List.map AV.v [.int .u32 id1, .pointer (some ⟨cap2, 0, none⟩)]) H (fun v H2 _ => liftB v fun r13 => K r13 H2) = patch_deps_1.F id1 cap2 H K := by kernel_rfl
theorem patch_deps_1.of (id1 : Int) (cap2 : Nat) {H : Hp} {K : Bool → Hp → Prop} (h : patch_deps_1.F id1 cap2 H K) : patch_deps_1.C id1 cap2 H K := CallH_of_vc mix tabOk Try.func61 (by kernel_rfl) ((patch_deps_1.vc id1 cap2 H K).mpr h)
-- slices.IndexFunc[[]string,string] (62)
def slices_IndexFunc_string_string.ann : Ann := { loops := [(0, [(8, .one (.int .i64))])], pars := [] }
def slices_IndexFunc_string_string.F (sp1 : Option Addr) (sl2 : Nat) (_sc3 : Nat) (f4 : Value) (H : Hp) (K : Int → Hp → Prop) : Prop :=
  ∃ (Iq7 : Int → Hp → Prop) (mu8 : Int → Hp → Nat), Iq7 (0 : Int) H ∧ ∀ (t5 : Int) (Hx6 : Hp), Iq7 t5 Hx6 → bc ((decide (t5 < ((sl2 : Nat) : Int)))) (IDX t5 sl2 fun k9 => NIL sp1 fun bq10 oq11 => ldS (rd Hx6 bq10 (oq11 + k9)) fun x12 => CallV prog f4 [.string x12] Hx6 fun v Hx14 => liftB v fun r13 => bc (r13) (K t5 Hx14) (CHK .i64 (t5 + (1 : Int)) fun x16 => Iq7 x16 Hx14 ∧ mu8 x16 Hx14 < mu8 t5 Hx6)) (K (-1 : Int) Hx6)
theorem slices_IndexFunc_string_string.vc (sp1 : Option Addr) (sl2 : Nat) (sc3 : Nat) (f4 : Value) (H : Hp) (K : Int → Hp → Prop) : vcFun prog tab slices_IndexFunc_string_string.ann none Try.f62 (List.map AV.v [.slice sp1 sl2 sc3, f4]) H (fun v H2 _ => liftI .i64 v fun r19 => K r19 H2) = slices_IndexFunc_string_string.F sp1 sl2 sc3 f4 H K := by kernel_rfl
theorem slices_IndexFunc_string_string.of (sp1 : Option Addr) (sl2 : Nat) (sc3 : Nat) (f4 : Value) {H : Hp} {K : Int → Hp → Prop} (h : slices_IndexFunc_string_string.F sp1 sl2 sc3 f4 H K) : slices_IndexFunc_string_string.C sp1 sl2 sc3 f4 H K := CallH_of_vc mix tabOk Try.func62 (by kernel_rfl) ((slices_IndexFunc_string_string.vc sp1 sl2 sc3 f4 H K).mpr h)
-- slices.Index[[]string,string] (63)
def slices_Index_string_string.ann : Ann := { loops := [(0, [(8, .one (.int .i64))])], pars := [] }
def slices_Index_string_string.F (sp1 : Option Addr) (sl2 : Nat) (_sc3 : Nat) (v4 : ByteArray) (H : Hp) (K : Int → Hp → Prop) : Prop :=
  ∃ (Iq7 : Int → Hp → Prop) (mu8 : Int → Hp → Nat), Iq7 (0 : Int) H ∧ ∀ (t5 : Int) (Hx6 : Hp), Iq7 t5 Hx6 → bc ((decide (t5 < ((sl2 : Nat) : Int)))) (IDX t5 sl2 fun k9 => NIL sp1 fun bq10 oq11 => ldS (rd Hx6 bq10 (oq11 + k9)) fun x12 => bc ((decide (v4 = x12))) (K t5 Hx6) (CHK .i64 (t5 + (1 : Int)) fun x14 => Iq7 x14 Hx6 ∧ mu8 x14 Hx6 < mu8 t5 Hx6)) (K (-1 : Int) Hx6)
theorem slices_Index_string_string.vc (sp1 : Option Addr) (sl2 : Nat) (sc3 : Nat) (v4 : ByteArray) (H : Hp) (K : Int → Hp → Prop) : vcFun prog tab slices_Index_string_string.ann none Try.f63 (List.map AV.v [.slice sp1 sl2 sc3, .string v4]) H (fun v H2 _ => liftI .i64 v fun r17 => K r17 H2) = slices_Index_string_string.F sp1 sl2 sc3 v4 H K := by kernel_rfl
theorem slices_Index_string_string.of (sp1 : Option Addr) (sl2 : Nat) (sc3 : Nat) (v4 : ByteArray) {H : Hp} {K : Int → Hp → Prop} (h : slices_Index_string_string.F sp1 sl2 sc3 v4 H K) : slices_Index_string_string.C sp1 sl2 sc3 v4 H K := CallH_of_vc mix tabOk Try.func63 (by kernel_rfl) ((slices_Index_string_string.vc sp1 sl2 sc3 v4 H K).mpr h)
-- cento/patch.isHunk$1 (64)
def patch_isHunk_1.ann : Ann := { loops := [], pars := [] }
def patch_isHunk_1.k1 (K : Bool → Hp → Prop) (bq6 : Nat) (own10 : Bool) (Hx11 : Hp) : Prop :=
  ldI .i64 (rd Hx11 bq6 1) fun x12 => bc ((decide ((0 : Int) ≤ x12))) (ldI .i64 (rd Hx11 bq6 1) fun x13 => bc ((decide (x13 < (40 : Int)))) (K own10 Hx11) (K false Hx11)) (K false Hx11)
def patch_isHunk_1.F (l1 : Int) (l2 : Int) (cap3 : Nat) (cap4 : Nat) (cap5 : Nat) (H : Hp) (K : Bool → Hp → Prop) : Prop :=
  NEW H [.int .u32 l1, .int .i64 l2] fun bq6 Hx7 => ldI .u32 (rd Hx7 bq6 0) fun x8 => ldI .u32 (rd Hx7 cap3 0) fun x9 => bc ((decide (¬ x8 = x9))) (patch_isHunk_1.k1 K bq6 true Hx7) (ldI .i64 (rd Hx7 bq6 1) fun x18 => ldI .i64 (rd Hx7 cap4 0) fun x19 => bc ((decide (x19 ≤ x18))) (ldI .i64 (rd Hx7 bq6 1) fun x20 => ldI .i64 (rd Hx7 cap4 0) fun x21 => ldL (rd Hx7 cap5 1) fun _ xl23 _ => CHK .i64 (x21 + ((xl23 : Nat) : Int)) fun x25 => patch_isHunk_1.k1 K bq6 (decide (x20 < x25)) Hx7) (patch_isHunk_1.k1 K bq6 false Hx7))
theorem patch_isHunk_1.vc (l1 : Int) (l2 : Int) (cap3 : Nat) (cap4 : Nat) (cap5 : Nat) (H : Hp) (K : Bool → Hp → Prop) : vcFun prog tab patch_isHunk_1.ann none Try.f64 (List.map AV.v [.agg ⟨[.int .u32 l1, .int .i64 l2]⟩, .pointer (some ⟨cap3, 0, none⟩), .pointer (some ⟨cap4, 0, none⟩), .pointer (some ⟨cap5, 0, none⟩)]) H (fun v H2 _ => liftB v fun r28 => K r28 H2) = patch_isHunk_1.F l1 l2 cap3 cap4 cap5 H K := by kernel_rfl
theorem patch_isHunk_1.of (l1 : Int) (l2 : Int) (cap3 : Nat) (cap4 : Nat) (cap5 : Nat) {H : Hp} {K : Bool → Hp → Prop} (h : patch_isHunk_1.F l1 l2 cap3 cap4 cap5 H K) : patch_isHunk_1.C l1 l2 cap3 cap4 cap5 H K := CallH_of_vc mix tabOk Try.func64 (by kernel_rfl) ((patch_isHunk_1.vc l1 l2 cap3 cap4 cap5 H K).mpr h)
-- cento/patch.isLine (65)
def patch_isLine.ann : Ann := { loops := [(0, [(14, .one (.int .i64))])], pars := [] }
def patch_isLine.k1 (K : Bool → Hp → Prop) (s1 : ByteArray) (Hx4 : Hp) : Prop :=
  CHK .i64 (((s1.size : Nat) : Int) - (1 : Int)) fun x5 => ∃ (Iq8 : Int → Hp → Prop) (mu9 : Int → Hp → Nat), Iq8 (0 : Int) Hx4 ∧ ∀ (t6 : Int) (Hx7 : Hp), Iq8 t6 Hx7 → bc ((decide (t6 < x5))) (IDX t6 s1.size fun k10 => bc ((decide (((s1.data.toList.getD k10 0).toNat : Int) = (10 : Int)))) (K false Hx7) (CHK .i64 (t6 + (1 : Int)) fun x12 => Iq8 x12 Hx7 ∧ mu9 x12 Hx7 < mu9 t6 Hx7)) (K true Hx7)
def patch_isLine.F (s1 : ByteArray) (H : Hp) (K : Bool → Hp → Prop) : Prop :=
  bc ((decide (s1 = (bs [])))) (K false H) (bc ((decide ((60 : Int) < ((s1.size : Nat) : Int)))) (K false H) (patch_isLine.k1 K s1 H))
theorem patch_isLine.vc (s1 : ByteArray) (H : Hp) (K : Bool → Hp → Prop) : vcFun prog tab patch_isLine.ann none Try.f65 (List.map AV.v [.string s1]) H (fun v H2 _ => liftB v fun r15 => K r15 H2) = patch_isLine.F s1 H K := by kernel_rfl
theorem patch_isLine.of (s1 : ByteArray) {H : Hp} {K : Bool → Hp → Prop} (h : patch_isLine.F s1 H K) : patch_isLine.C s1 H K := CallH_of_vc mix tabOk Try.func65 (by kernel_rfl) ((patch_isLine.vc s1 H K).mpr h)
-- cento/patch.rises[cento/api.Edge] (66)
def patch_rises_api_Edge.ann : Ann := { loops := [(0, [(5, .one (.int .i64))])], pars := [] }
def patch_rises_api_Edge.F (lp1 : Option Addr) (ll2 : Nat) (_lc3 : Nat) (compare4 : Value) (H : Hp) (K : Bool → Hp → Prop) : Prop :=
  ∃ (Iq7 : Int → Hp → Prop) (mu8 : Int → Hp → Nat), Iq7 (1 : Int) H ∧ ∀ (i5 : Int) (Hx6 : Hp), Iq7 i5 Hx6 → bc ((decide (i5 < ((ll2 : Nat) : Int)))) (CHK .i64 (i5 - (1 : Int)) fun x9 => IDX x9 ll2 fun k10 => NIL lp1 fun bq11 oq12 => ldI .u32 (rd Hx6 bq11 (oq12 + (k10 * 4))) fun x13 => ldI .i64 (rd Hx6 bq11 ((oq12 + (k10 * 4)) + 1)) fun x14 => ldI .u32 (rd Hx6 bq11 (((oq12 + (k10 * 4)) + 1) + 1)) fun x15 => ldI .i64 (rd Hx6 bq11 ((((oq12 + (k10 * 4)) + 1) + 1) + 1)) fun x16 => IDX i5 ll2 fun k17 => NIL lp1 fun bq18 oq19 => ldI .u32 (rd Hx6 bq18 (oq19 + (k17 * 4))) fun x20 => ldI .i64 (rd Hx6 bq18 ((oq19 + (k17 * 4)) + 1)) fun x21 => ldI .u32 (rd Hx6 bq18 (((oq19 + (k17 * 4)) + 1) + 1)) fun x22 => ldI .i64 (rd Hx6 bq18 ((((oq19 + (k17 * 4)) + 1) + 1) + 1)) fun x23 => CallV prog compare4 [.agg ⟨[.int .u32 x13, .int .i64 x14, .int .u32 x15, .int .i64 x16]⟩, .agg ⟨[.int .u32 x20, .int .i64 x21, .int .u32 x22, .int .i64 x23]⟩] Hx6 fun v Hx25 => liftI .i64 v fun r24 => bc ((decide ((0 : Int) ≤ r24))) (K false Hx25) (CHK .i64 (i5 + (1 : Int)) fun x27 => Iq7 x27 Hx25 ∧ mu8 x27 Hx25 < mu8 i5 Hx6)) (K true Hx6)
theorem patch_rises_api_Edge.vc (lp1 : Option Addr) (ll2 : Nat) (lc3 : Nat) (compare4 : Value) (H : Hp) (K : Bool → Hp → Prop) : vcFun prog tab patch_rises_api_Edge.ann none Try.f66 (List.map AV.v [.slice lp1 ll2 lc3, compare4]) H (fun v H2 _ => liftB v fun r30 => K r30 H2) = patch_rises_api_Edge.F lp1 ll2 lc3 compare4 H K := by kernel_rfl
theorem patch_rises_api_Edge.of (lp1 : Option Addr) (ll2 : Nat) (lc3 : Nat) (compare4 : Value) {H : Hp} {K : Bool → Hp → Prop} (h : patch_rises_api_Edge.F lp1 ll2 lc3 compare4 H K) : patch_rises_api_Edge.C lp1 ll2 lc3 compare4 H K := CallH_of_vc mix tabOk Try.func66 (by kernel_rfl) ((patch_rises_api_Edge.vc lp1 ll2 lc3 compare4 H K).mpr h)
-- cento/patch.CompareEdges (67)
def patch_CompareEdges.ann : Ann := { loops := [], pars := [] }
def patch_CompareEdges.F (a1 : Int) (a2 : Int) (a3 : Int) (a4 : Int) (bq5 : Int) (bq6 : Int) (bq7 : Int) (bq8 : Int) (H : Hp) (K : Int → Hp → Prop) : Prop :=
  NEW H [.int .u32 a1, .int .i64 a2, .int .u32 a3, .int .i64 a4] fun bq9 Hx10 => NEW Hx10 [.int .u32 bq5, .int .i64 bq6, .int .u32 bq7, .int .i64 bq8] fun bq11 Hx12 => ldI .u32 (rd Hx12 bq9 0) fun x13 => ldI .i64 (rd Hx12 bq9 1) fun x14 => ldI .u32 (rd Hx12 bq11 0) fun x15 => ldI .i64 (rd Hx12 bq11 1) fun x16 => ldI .u32 (rd Hx12 bq9 2) fun x17 => ldI .i64 (rd Hx12 bq9 3) fun x18 => ldI .u32 (rd Hx12 bq11 2) fun x19 => ldI .i64 (rd Hx12 bq11 3) fun x20 => patch_Compare.C x13 x14 x15 x16 Hx12 fun r21 Hx22 => rd Hx22 bq11 2 = some (.int .u32 x19) ∧ (rd Hx22 bq11 3 = some (.int .i64 x20) ∧ (rd Hx22 bq9 2 = some (.int .u32 x17) ∧ (rd Hx22 bq9 3 = some (.int .i64 x18) ∧ (patch_Compare.C x17 x18 x19 x20 Hx22 fun r27 Hx28 => NEW Hx28 ([.int .i64 r21, .int .i64 r27]) fun bq33 Hx34 => cmp_Or_int.C (some ⟨bq33, 0, none⟩) 2 2 Hx34 fun r35 Hx36 => K r35 Hx36))))
theorem patch_CompareEdges.vc (a1 : Int) (a2 : Int) (a3 : Int) (a4 : Int) (bq5 : Int) (bq6 : Int) (bq7 : Int) (bq8 : Int) (H : Hp) (K : Int → Hp → Prop) : vcFun prog tab patch_CompareEdges.ann none Try.f67 (List.map AV.v [.agg ⟨[.int .u32 a1, .int .i64 a2, .int .u32 a3, .int .i64 a4]⟩, .agg ⟨[.int .u32 bq5, .int .i64 bq6, .int .u32 bq7, .int .i64 bq8]⟩]) H (fun v H2 _ => liftI .i64 v fun r41 => K r41 H2) = patch_CompareEdges.F a1 a2 a3 a4 bq5 bq6 bq7 bq8 H K := by kernel_rfl
theorem patch_CompareEdges.of (a1 : Int) (a2 : Int) (a3 : Int) (a4 : Int) (bq5 : Int) (bq6 : Int) (bq7 : Int) (bq8 : Int) {H : Hp} {K : Int → Hp → Prop} (h : patch_CompareEdges.F a1 a2 a3 a4 bq5 bq6 bq7 bq8 H K) : patch_CompareEdges.C a1 a2 a3 a4 bq5 bq6 bq7 bq8 H K := CallH_of_vc mix tabOk Try.func67 (by kernel_rfl) ((patch_CompareEdges.vc a1 a2 a3 a4 bq5 bq6 bq7 bq8 H K).mpr h)
-- cento/patch.rises[cento/api.LineID] (68)
def patch_rises_api_LineID.ann : Ann := { loops := [(0, [(5, .one (.int .i64))])], pars := [] }
def patch_rises_api_LineID.F (lp1 : Option Addr) (ll2 : Nat) (_lc3 : Nat) (compare4 : Value) (H : Hp) (K : Bool → Hp → Prop) : Prop :=
  ∃ (Iq7 : Int → Hp → Prop) (mu8 : Int → Hp → Nat), Iq7 (1 : Int) H ∧ ∀ (i5 : Int) (Hx6 : Hp), Iq7 i5 Hx6 → bc ((decide (i5 < ((ll2 : Nat) : Int)))) (CHK .i64 (i5 - (1 : Int)) fun x9 => IDX x9 ll2 fun k10 => NIL lp1 fun bq11 oq12 => ldI .u32 (rd Hx6 bq11 (oq12 + (k10 * 2))) fun x13 => ldI .i64 (rd Hx6 bq11 ((oq12 + (k10 * 2)) + 1)) fun x14 => IDX i5 ll2 fun k15 => NIL lp1 fun bq16 oq17 => ldI .u32 (rd Hx6 bq16 (oq17 + (k15 * 2))) fun x18 => ldI .i64 (rd Hx6 bq16 ((oq17 + (k15 * 2)) + 1)) fun x19 => CallV prog compare4 [.agg ⟨[.int .u32 x13, .int .i64 x14]⟩, .agg ⟨[.int .u32 x18, .int .i64 x19]⟩] Hx6 fun v Hx21 => liftI .i64 v fun r20 => bc ((decide ((0 : Int) ≤ r20))) (K false Hx21) (CHK .i64 (i5 + (1 : Int)) fun x23 => Iq7 x23 Hx21 ∧ mu8 x23 Hx21 < mu8 i5 Hx6)) (K true Hx6)
theorem patch_rises_api_LineID.vc (lp1 : Option Addr) (ll2 : Nat) (lc3 : Nat) (compare4 : Value) (H : Hp) (K : Bool → Hp → Prop) : vcFun prog tab patch_rises_api_LineID.ann none Try.f68 (List.map AV.v [.slice lp1 ll2 lc3, compare4]) H (fun v H2 _ => liftB v fun r26 => K r26 H2) = patch_rises_api_LineID.F lp1 ll2 lc3 compare4 H K := by kernel_rfl
theorem patch_rises_api_LineID.of (lp1 : Option Addr) (ll2 : Nat) (lc3 : Nat) (compare4 : Value) {H : Hp} {K : Bool → Hp → Prop} (h : patch_rises_api_LineID.F lp1 ll2 lc3 compare4 H K) : patch_rises_api_LineID.C lp1 ll2 lc3 compare4 H K := CallH_of_vc mix tabOk Try.func68 (by kernel_rfl) ((patch_rises_api_LineID.vc lp1 ll2 lc3 compare4 H K).mpr h)
-- cento/patch.Compare (69)
def patch_Compare.ann : Ann := { loops := [], pars := [] }
def patch_Compare.F (a1 : Int) (a2 : Int) (bq3 : Int) (bq4 : Int) (H : Hp) (K : Int → Hp → Prop) : Prop :=
  NEW H [.int .u32 a1, .int .i64 a2] fun bq5 Hx6 => NEW Hx6 [.int .u32 bq3, .int .i64 bq4] fun bq7 Hx8 => ldI .u32 (rd Hx8 bq5 0) fun x9 => ldI .u32 (rd Hx8 bq7 0) fun x10 => ldI .i64 (rd Hx8 bq5 1) fun x11 => ldI .i64 (rd Hx8 bq7 1) fun x12 => cmp_Compare_uint32.C x9 x10 Hx8 fun r13 Hx14 => rd Hx14 bq7 1 = some (.int .i64 x12) ∧ (rd Hx14 bq5 1 = some (.int .i64 x11) ∧ (cmp_Compare_int.C x11 x12 Hx14 fun r17 Hx18 => NEW Hx18 ([.int .i64 r13, .int .i64 r17]) fun bq21 Hx22 => cmp_Or_int.C (some ⟨bq21, 0, none⟩) 2 2 Hx22 fun r23 Hx24 => K r23 Hx24))
theorem patch_Compare.vc (a1 : Int) (a2 : Int) (bq3 : Int) (bq4 : Int) (H : Hp) (K : Int → Hp → Prop) : vcFun prog tab patch_Compare.ann none Try.f69 (List.map AV.v [.agg ⟨[.int .u32 a1, .int .i64 a2]⟩, .agg ⟨[.int .u32 bq3, .int .i64 bq4]⟩]) H (fun v H2 _ => liftI .i64 v fun r29 => K r29 H2) = patch_Compare.F a1 a2 bq3 bq4 H K := by kernel_rfl
theorem patch_Compare.of (a1 : Int) (a2 : Int) (bq3 : Int) (bq4 : Int) {H : Hp} {K : Int → Hp → Prop} (h : patch_Compare.F a1 a2 bq3 bq4 H K) : patch_Compare.C a1 a2 bq3 bq4 H K := CallH_of_vc mix tabOk Try.func69 (by kernel_rfl) ((patch_Compare.vc a1 a2 bq3 bq4 H K).mpr h)
-- (*strings.Builder).copyCheck (70)
def strings_Builder_copyCheck.ann : Ann := { loops := [], pars := [] }
def strings_Builder_copyCheck.F (bq1 : Option Addr) (H : Hp) (K : Hp → Prop) : Prop :=
  NIL bq1 fun bq2 oq3 => ldP (rd H bq2 oq3) fun x4 => bc ((decide (x4 = none))) (CNV prog 73 119 bq1 H fun x5 => internal_abi_NoEscape.C x5 H fun r6 Hx7 => CNV prog 119 73 r6 Hx7 fun x9 => NIL bq1 fun bq10 oq11 => ST Hx7 bq10 oq11 (.pointer x9) fun Hx12 => K Hx12) (NIL bq1 fun bq13 oq14 => ldP (rd H bq13 oq14) fun x15 => ptC bq1 (bc ((decide (¬ x15 = none))) (False) (K H)) (fun x17 => PEQ prog 73 .neq x15 x17 fun x16 => bc (x16) (False) (K H)))
theorem strings_Builder_copyCheck.vc (bq1 : Option Addr) (H : Hp) (K : Hp → Prop) : vcFun prog tab strings_Builder_copyCheck.ann none Try.f70 (List.map AV.v [.pointer bq1]) H (fun v H2 _ => tupV v fun vs => d0 vs (K H2)) = strings_Builder_copyCheck.F bq1 H K := by kernel_rfl
theorem strings_Builder_copyCheck.of (bq1 : Option Addr) {H : Hp} {K : Hp → Prop} (h : strings_Builder_copyCheck.F bq1 H K) : strings_Builder_copyCheck.C bq1 H K := CallH_of_vc mix tabOk Try.func70 (by kernel_rfl) ((strings_Builder_copyCheck.vc bq1 H K).mpr h)
-- cmp.isNaN[string] (71)
def cmp_isNaN_string.ann : Ann := { loops := [], pars := [] }
def cmp_isNaN_string.F (x1 : ByteArray) (H : Hp) (K : Bool → Hp → Prop) : Prop :=
  K (decide (¬ x1 = x1)) H
theorem cmp_isNaN_string.vc (x1 : ByteArray) (H : Hp) (K : Bool → Hp → Prop) : vcFun prog tab cmp_isNaN_string.ann none Try.f71 (List.map AV.v [.string x1]) H (fun v H2 _ => liftB v fun r3 => K r3 H2) = cmp_isNaN_string.F x1 H K := by kernel_rfl
theorem cmp_isNaN_string.of (x1 : ByteArray) {H : Hp} {K : Bool → Hp → Prop} (h : cmp_isNaN_string.F x1 H K) : cmp_isNaN_string.C x1 H K := CallH_of_vc mix tabOk Try.func71 (by kernel_rfl) ((cmp_isNaN_string.vc x1 H K).mpr h)
-- cmp.isNaN[uint32] (72)
def cmp_isNaN_uint32.ann : Ann := { loops := [], pars := [] }
def cmp_isNaN_uint32.F (x1 : Int) (H : Hp) (K : Bool → Hp → Prop) : Prop :=
  K (decide (¬ x1 = x1)) H
theorem cmp_isNaN_uint32.vc (x1 : Int) (H : Hp) (K : Bool → Hp → Prop) : vcFun prog tab cmp_isNaN_uint32.ann none Try.f72 (List.map AV.v [.int .u32 x1]) H (fun v H2 _ => liftB v fun r3 => K r3 H2) = cmp_isNaN_uint32.F x1 H K := by kernel_rfl
theorem cmp_isNaN_uint32.of (x1 : Int) {H : Hp} {K : Bool → Hp → Prop} (h : cmp_isNaN_uint32.F x1 H K) : cmp_isNaN_uint32.C x1 H K := CallH_of_vc mix tabOk Try.func72 (by kernel_rfl) ((cmp_isNaN_uint32.vc x1 H K).mpr h)
-- slices.Index[[]uint32,uint32] (73)
def slices_Index_uint32_uint32.ann : Ann := { loops := [(0, [(8, .one (.int .i64))])], pars := [] }
def slices_Index_uint32_uint32.F (sp1 : Option Addr) (sl2 : Nat) (_sc3 : Nat) (v4 : Int) (H : Hp) (K : Int → Hp → Prop) : Prop :=
  ∃ (Iq7 : Int → Hp → Prop) (mu8 : Int → Hp → Nat), Iq7 (0 : Int) H ∧ ∀ (t5 : Int) (Hx6 : Hp), Iq7 t5 Hx6 → bc ((decide (t5 < ((sl2 : Nat) : Int)))) (IDX t5 sl2 fun k9 => NIL sp1 fun bq10 oq11 => ldI .u32 (rd Hx6 bq10 (oq11 + k9)) fun x12 => bc ((decide (v4 = x12))) (K t5 Hx6) (CHK .i64 (t5 + (1 : Int)) fun x14 => Iq7 x14 Hx6 ∧ mu8 x14 Hx6 < mu8 t5 Hx6)) (K (-1 : Int) Hx6)
theorem slices_Index_uint32_uint32.vc (sp1 : Option Addr) (sl2 : Nat) (sc3 : Nat) (v4 : Int) (H : Hp) (K : Int → Hp → Prop) : vcFun prog tab slices_Index_uint32_uint32.ann none Try.f73 (List.map AV.v [.slice sp1 sl2 sc3, .int .u32 v4]) H (fun v H2 _ => liftI .i64 v fun r17 => K r17 H2) = slices_Index_uint32_uint32.F sp1 sl2 sc3 v4 H K := by kernel_rfl
theorem slices_Index_uint32_uint32.of (sp1 : Option Addr) (sl2 : Nat) (sc3 : Nat) (v4 : Int) {H : Hp} {K : Int → Hp → Prop} (h : slices_Index_uint32_uint32.F sp1 sl2 sc3 v4 H K) : slices_Index_uint32_uint32.C sp1 sl2 sc3 v4 H K := CallH_of_vc mix tabOk Try.func73 (by kernel_rfl) ((slices_Index_uint32_uint32.vc sp1 sl2 sc3 v4 H K).mpr h)
-- slices.IndexFunc[[]uint32,uint32] (74)
def slices_IndexFunc_uint32_uint32.ann : Ann := { loops := [(0, [(8, .one (.int .i64))])], pars := [] }
def slices_IndexFunc_uint32_uint32.F (sp1 : Option Addr) (sl2 : Nat) (_sc3 : Nat) (f4 : Value) (H : Hp) (K : Int → Hp → Prop) : Prop :=
  ∃ (Iq7 : Int → Hp → Prop) (mu8 : Int → Hp → Nat), Iq7 (0 : Int) H ∧ ∀ (t5 : Int) (Hx6 : Hp), Iq7 t5 Hx6 → bc ((decide (t5 < ((sl2 : Nat) : Int)))) (IDX t5 sl2 fun k9 => NIL sp1 fun bq10 oq11 => ldI .u32 (rd Hx6 bq10 (oq11 + k9)) fun x12 => CallV prog f4 [.int .u32 x12] Hx6 fun v Hx14 => liftB v fun r13 => bc (r13) (K t5 Hx14) (CHK .i64 (t5 + (1 : Int)) fun x16 => Iq7 x16 Hx14 ∧ mu8 x16 Hx14 < mu8 t5 Hx6)) (K (-1 : Int) Hx6)
theorem slices_IndexFunc_uint32_uint32.vc (sp1 : Option Addr) (sl2 : Nat) (sc3 : Nat) (f4 : Value) (H : Hp) (K : Int → Hp → Prop) : vcFun prog tab slices_IndexFunc_uint32_uint32.ann none Try.f74 (List.map AV.v [.slice sp1 sl2 sc3, f4]) H (fun v H2 _ => liftI .i64 v fun r19 => K r19 H2) = slices_IndexFunc_uint32_uint32.F sp1 sl2 sc3 f4 H K := by kernel_rfl
theorem slices_IndexFunc_uint32_uint32.of (sp1 : Option Addr) (sl2 : Nat) (sc3 : Nat) (f4 : Value) {H : Hp} {K : Int → Hp → Prop} (h : slices_IndexFunc_uint32_uint32.F sp1 sl2 sc3 f4 H K) : slices_IndexFunc_uint32_uint32.C sp1 sl2 sc3 f4 H K := CallH_of_vc mix tabOk Try.func74 (by kernel_rfl) ((slices_IndexFunc_uint32_uint32.vc sp1 sl2 sc3 f4 H K).mpr h)
-- slices.DeleteFunc[[]uint32,uint32] (75)
def slices_DeleteFunc_uint32_uint32.ann : Ann := { loops := [(0, [(5, .one (.int .i64)), (6, .one (.int .i64))])], pars := [] }
def slices_DeleteFunc_uint32_uint32.F (sp1 : Option Addr) (sl2 : Nat) (sc3 : Nat) (del4 : Value) (H : Hp) (K : Option Addr → Nat → Nat → Hp → Prop) : Prop :=
  slices_IndexFunc_uint32_uint32.C sp1 sl2 sc3 (del4) H fun r5 Hx6 => bc ((decide (r5 = (-1 : Int)))) (K sp1 sl2 sc3 Hx6) (CHK .i64 (r5 + (1 : Int)) fun x14 => ∃ (Iq18 : Int → Int → Hp → Prop) (mu19 : Int → Int → Hp → Nat), Iq18 r5 x14 Hx6 ∧ ∀ (i15 : Int) (j16 : Int) (Hx17 : Hp), Iq18 i15 j16 Hx17 → bc ((decide (j16 < ((sl2 : Nat) : Int)))) (IDX j16 sl2 fun k20 => NIL sp1 fun bq21 oq22 => ldI .u32 (rd Hx17 bq21 (oq22 + k20)) fun x23 => CallV prog del4 [.int .u32 x23] Hx17 fun v Hx25 => liftB v fun r24 => bc ((!r24)) (IDX i15 sl2 fun k26 => NIL sp1 fun bq27 oq28 => ST Hx25 bq27 (oq28 + k26) (.int .u32 x23) fun Hx29 => CHK .i64 (i15 + (1 : Int)) fun x30 => CHK .i64 (j16 + (1 : Int)) fun x31 => Iq18 x30 x31 Hx29 ∧ mu19 x30 x31 Hx29 < mu19 i15 j16 Hx17) (CHK .i64 (j16 + (1 : Int)) fun x34 => Iq18 i15 x34 Hx25 ∧ mu19 i15 x34 Hx25 < mu19 i15 j16 Hx17)) (BND (some i15) none sl2 sc3 fun j37 k38 => CLR Hx17 te_uint32 (movA sp1 j37 1 sc3) (k38 - j37) fun Hx39 => BND none (some i15) sl2 sc3 fun j40 k41 => K (movA sp1 j40 1 sc3) (k41 - j40) (sc3 - j40) Hx39))
theorem slices_DeleteFunc_uint32_uint32.vc (sp1 : Option Addr) (sl2 : Nat) (sc3 : Nat) (del4 : Value) (H : Hp) (K : Option Addr → Nat → Nat → Hp → Prop) : vcFun prog tab slices_DeleteFunc_uint32_uint32.ann none Try.f75 (List.map AV.v [.slice sp1 sl2 sc3, del4]) H (fun v H2 _ => liftL v fun rp45 rl46 rc47 => K rp45 rl46 rc47 H2) = slices_DeleteFunc_uint32_uint32.F sp1 sl2 sc3 del4 H K := by kernel_rfl
theorem slices_DeleteFunc_uint32_uint32.of (sp1 : Option Addr) (sl2 : Nat) (sc3 : Nat) (del4 : Value) {H : Hp} {K : Option Addr → Nat → Nat → Hp → Prop} (h : slices_DeleteFunc_uint32_uint32.F sp1 sl2 sc3 del4 H K) : slices_DeleteFunc_uint32_uint32.C sp1 sl2 sc3 del4 H K := CallH_of_vc mix tabOk Try.func75 (by kernel_rfl) ((slices_DeleteFunc_uint32_uint32.vc sp1 sl2 sc3 del4 H K).mpr h)
-- cento/patch.Needs$1 (76)
def patch_Needs_1.ann : Ann := { loops := [], pars := [] }
def patch_Needs_1.F (id1 : Int) (cap2 : Nat) (H : Hp) (K : Bool → Hp → Prop) : Prop :=
  ldI .u32 (rd H cap2 0) fun x3 => K (decide (id1 = x3)) H
theorem patch_Needs_1.vc (id1 : Int) (cap2 : Nat) (H : Hp) (K : Bool → Hp → Prop) : vcFun prog tab patch_Needs_1.ann none Try.f76 (List.map AV.v [.int .u32 id1, .pointer (some ⟨cap2, 0, none⟩)]) H (fun v H2 _ => liftB v fun r5 => K r5 H2) = patch_Needs_1.F id1 cap2 H K := by kernel_rfl
theorem patch_Needs_1.of (id1 : Int) (cap2 : Nat) {H : Hp} {K : Bool → Hp → Prop} (h : patch_Needs_1.F id1 cap2 H K) : patch_Needs_1.C id1 cap2 H K := CallH_of_vc mix tabOk Try.func76 (by kernel_rfl) ((patch_Needs_1.vc id1 cap2 H K).mpr h)
-- slices.Sort[[]uint32,uint32] (77)
def slices_Sort_uint32_uint32.ann : Ann := { loops := [], pars := [] }
def slices_Sort_uint32_uint32.F (xp1 : Option Addr) (xl2 : Nat) (xc3 : Nat) (H : Hp) (K : Hp → Prop) : Prop :=
  math_bits_Len.C (IntKind.wrap .u64 ((xl2 : Nat) : Int)) H fun r4 Hx5 => slices_pdqsortOrdered_uint32.C xp1 xl2 xc3 (0 : Int) ((xl2 : Nat) : Int) r4 Hx5 fun Hx7 => K Hx7
theorem slices_Sort_uint32_uint32.vc (xp1 : Option Addr) (xl2 : Nat) (xc3 : Nat) (H : Hp) (K : Hp → Prop) : vcFun prog tab slices_Sort_uint32_uint32.ann none Try.f77 (List.map AV.v [.slice xp1 xl2 xc3]) H (fun v H2 _ => tupV v fun vs => d0 vs (K H2)) = slices_Sort_uint32_uint32.F xp1 xl2 xc3 H K := by kernel_rfl
theorem slices_Sort_uint32_uint32.of (xp1 : Option Addr) (xl2 : Nat) (xc3 : Nat) {H : Hp} {K : Hp → Prop} (h : slices_Sort_uint32_uint32.F xp1 xl2 xc3 H K) : slices_Sort_uint32_uint32.C xp1 xl2 xc3 H K := CallH_of_vc mix tabOk Try.func77 (by kernel_rfl) ((slices_Sort_uint32_uint32.vc xp1 xl2 xc3 H K).mpr h)
-- slices.Compact[[]uint32,uint32] (78)
def slices_Compact_uint32_uint32.ann : Ann := { loops := [(0, [(3, .one (.int .i64))]), (2, [(3, .one (.int .i64)), (5, .one (.int .i64))])], pars := [] }
def slices_Compact_uint32_uint32.F (sp1 : Option Addr) (sl2 : Nat) (sc3 : Nat) (H : Hp) (K : Option Addr → Nat → Nat → Hp → Prop) : Prop :=
  bc ((decide (((sl2 : Nat) : Int) < (2 : Int)))) (K sp1 sl2 sc3 H) (∃ (Iq9 : Int → Hp → Prop) (mu10 : Int → Hp → Nat), Iq9 (1 : Int) H ∧ ∀ (k7 : Int) (Hx8 : Hp), Iq9 k7 Hx8 → bc ((decide (k7 < ((sl2 : Nat) : Int)))) (IDX k7 sl2 fun k11 => NIL sp1 fun bq12 oq13 => ldI .u32 (rd Hx8 bq12 (oq13 + k11)) fun x14 => CHK .i64 (k7 - (1 : Int)) fun x15 => IDX x15 sl2 fun k16 => NIL sp1 fun bq17 oq18 => ldI .u32 (rd Hx8 bq17 (oq18 + k16)) fun x19 => bc ((decide (x14 = x19))) (BND (some k7) none sl2 sc3 fun j20 k21 => ∃ (Iq25 : Int → Int → Hp → Prop) (mu26 : Int → Int → Hp → Nat), Iq25 k7 (1 : Int) Hx8 ∧ ∀ (k22 : Int) (k23 : Int) (Hx24 : Hp), Iq25 k22 k23 Hx24 → bc ((decide (k23 < (((k21 - j20) : Nat) : Int)))) (IDX k23 (k21 - j20) fun k27 => NIL (movA sp1 j20 1 sc3) fun bq28 oq29 => ldI .u32 (rd Hx24 bq28 (oq29 + k27)) fun x30 => CHK .i64 (k23 - (1 : Int)) fun x31 => IDX x31 (k21 - j20) fun k32 => NIL (movA sp1 j20 1 sc3) fun bq33 oq34 => ldI .u32 (rd Hx24 bq33 (oq34 + k32)) fun x35 => bc ((decide (¬ x30 = x35))) (IDX k23 (k21 - j20) fun k36 => NIL (movA sp1 j20 1 sc3) fun bq37 oq38 => ldI .u32 (rd Hx24 bq37 (oq38 + k36)) fun x39 => IDX k22 sl2 fun k40 => NIL sp1 fun bq41 oq42 => ST Hx24 bq41 (oq42 + k40) (.int .u32 x39) fun Hx43 => CHK .i64 (k22 + (1 : Int)) fun x44 => CHK .i64 (k23 + (1 : Int)) fun x45 => Iq25 x44 x45 Hx43 ∧ mu26 x44 x45 Hx43 < mu26 k22 k23 Hx24) (CHK .i64 (k23 + (1 : Int)) fun x48 => Iq25 k22 x48 Hx24 ∧ mu26 k22 x48 Hx24 < mu26 k22 k23 Hx24)) (BND (some k22) none sl2 sc3 fun j51 k52 => CLR Hx24 te_uint32 (movA sp1 j51 1 sc3) (k52 - j51) fun Hx53 => BND none (some k22) sl2 sc3 fun j54 k55 => K (movA sp1 j54 1 sc3) (k55 - j54) (sc3 - j54) Hx53)) (CHK .i64 (k7 + (1 : Int)) fun x59 => Iq9 x59 Hx8 ∧ mu10 x59 Hx8 < mu10 k7 Hx8)) (K sp1 sl2 sc3 Hx8))
theorem slices_Compact_uint32_uint32.vc (sp1 : Option Addr) (sl2 : Nat) (sc3 : Nat) (H : Hp) (K : Option Addr → Nat → Nat → Hp → Prop) : vcFun prog tab slices_Compact_uint32_uint32.ann none Try.f78 (List.map AV.v [.slice sp1 sl2 sc3]) H (fun v H2 _ => liftL v fun rp64 rl65 rc66 => K rp64 rl65 rc66 H2) = slices_Compact_uint32_uint32.F sp1 sl2 sc3 H K := by kernel_rfl
theorem slices_Compact_uint32_uint32.of (sp1 : Option Addr) (sl2 : Nat) (sc3 : Nat) {H : Hp} {K : Option Addr → Nat → Nat → Hp → Prop} (h : slices_Compact_uint32_uint32.F sp1 sl2 sc3 H K) : slices_Compact_uint32_uint32.C sp1 sl2 sc3 H K := CallH_of_vc mix tabOk Try.func78 (by kernel_rfl) ((slices_Compact_uint32_uint32.vc sp1 sl2 sc3 H K).mpr h)
-- cmp.Or[int] (79)
def cmp_Or_int.ann : Ann := { loops := [(0, [(8, .one (.int .i64))])], pars := [] }
def cmp_Or_int.F (valsp1 : Option Addr) (valsl2 : Nat) (_valsc3 : Nat) (H : Hp) (K : Int → Hp → Prop) : Prop :=
  ∃ (Iq6 : Int → Hp → Prop) (mu7 : Int → Hp → Nat), Iq6 (0 : Int) H ∧ ∀ (t4 : Int) (Hx5 : Hp), Iq6 t4 Hx5 → bc ((decide (t4 < ((valsl2 : Nat) : Int)))) (IDX t4 valsl2 fun k8 => NIL valsp1 fun bq9 oq10 => ldI .i64 (rd Hx5 bq9 (oq10 + k8)) fun x11 => bc ((decide (¬ x11 = (0 : Int)))) (K x11 Hx5) (CHK .i64 (t4 + (1 : Int)) fun x13 => Iq6 x13 Hx5 ∧ mu7 x13 Hx5 < mu7 t4 Hx5)) (K (0 : Int) Hx5)
theorem cmp_Or_int.vc (valsp1 : Option Addr) (valsl2 : Nat) (valsc3 : Nat) (H : Hp) (K : Int → Hp → Prop) : vcFun prog tab cmp_Or_int.ann none Try.f79 (List.map AV.v [.slice valsp1 valsl2 valsc3]) H (fun v H2 _ => liftI .i64 v fun r16 => K r16 H2) = cmp_Or_int.F valsp1 valsl2 valsc3 H K := by kernel_rfl
theorem cmp_Or_int.of (valsp1 : Option Addr) (valsl2 : Nat) (valsc3 : Nat) {H : Hp} {K : Int → Hp → Prop} (h : cmp_Or_int.F valsp1 valsl2 valsc3 H K) : cmp_Or_int.C valsp1 valsl2 valsc3 H K := CallH_of_vc mix tabOk Try.func79 (by kernel_rfl) ((cmp_Or_int.vc valsp1 valsl2 valsc3 H K).mpr h)
-- cmp.Compare[int] (80)
def cmp_Compare_int.ann : Ann := { loops := [], pars := [] }
def cmp_Compare_int.F (x1 : Int) (y2 : Int) (H : Hp) (K : Int → Hp → Prop) : Prop :=
  cmp_isNaN_int.C x1 H fun r3 Hx4 => cmp_isNaN_int.C y2 Hx4 fun r6 Hx7 => bc (r3) (bc (r6) (K (0 : Int) Hx7) (K (-1 : Int) Hx7)) (bc (r6) (K (1 : Int) Hx7) (bc ((decide (x1 < y2))) (K (-1 : Int) Hx7) (bc ((decide (y2 < x1))) (K (1 : Int) Hx7) (K (0 : Int) Hx7))))
theorem cmp_Compare_int.vc (x1 : Int) (y2 : Int) (H : Hp) (K : Int → Hp → Prop) : vcFun prog tab cmp_Compare_int.ann none Try.f80 (List.map AV.v [.int .i64 x1, .int .i64 y2]) H (fun v H2 _ => liftI .i64 v fun r15 => K r15 H2) = cmp_Compare_int.F x1 y2 H K := by kernel_rfl
theorem cmp_Compare_int.of (x1 : Int) (y2 : Int) {H : Hp} {K : Int → Hp → Prop} (h : cmp_Compare_int.F x1 y2 H K) : cmp_Compare_int.C x1 y2 H K := CallH_of_vc mix tabOk Try.func80 (by kernel_rfl) ((cmp_Compare_int.vc x1 y2 H K).mpr h)
-- slices.pdqsortOrdered[uint32] (82)
def slices_pdqsortOrdered_uint32.ann : Ann := { loops := [(0, [(1, .one (.int .i64)), (2, .one (.int .i64)), (3, .one (.int .i64)), (8, .one .bool), (9, .one .bool)])], pars := [] }
def slices_pdqsortOrdered_uint32.k4 (Hx12 : Hp) (Iq13 : Int → Int → Int → Bool → Bool → Hp → Prop) (a7 : Int) (bq8 : Int) (datac3 : Nat) (datal2 : Nat) (datap1 : Option Addr) (limit35 : Int) (limit9 : Int) (mu14 : Int → Int → Int → Bool → Bool → Hp → Nat) (pivot54 : Int) (wasBalanced10 : Bool) (wasPartitioned11 : Bool) (x15 : Int) (a91 : Int) (Hx92 : Hp) : Prop :=
  slices_partitionOrdered_uint32.C datap1 datal2 datac3 a91 bq8 pivot54 Hx92 fun r93 r94 Hx95 => CHK .i64 (r93 - a91) fun x102 => CHK .i64 (bq8 - r93) fun x103 => ¬ (8 : Int) = 0 ∧ (CHK .i64 (Int.tdiv x15 (8 : Int)) fun x104 => bc ((decide (x102 < x103))) (slices_pdqsortOrdered_uint32.C datap1 datal2 datac3 a91 r93 limit35 Hx95 fun Hx105 => CHK .i64 (r93 + (1 : Int)) fun x112 => Iq13 x112 bq8 limit35 (decide (x104 ≤ x102)) r94 Hx105 ∧ mu14 x112 bq8 limit35 (decide (x104 ≤ x102)) r94 Hx105 < mu14 a7 bq8 limit9 wasBalanced10 wasPartitioned11 Hx12) (CHK .i64 (r93 + (1 : Int)) fun x118 => slices_pdqsortOrdered_uint32.C datap1 datal2 datac3 x118 bq8 limit35 Hx95 fun Hx119 => Iq13 a91 r93 limit35 (decide (x104 ≤ x103)) r94 Hx119 ∧ mu14 a91 r93 limit35 (decide (x104 ≤ x103)) r94 Hx119 < mu14 a7 bq8 limit9 wasBalanced10 wasPartitioned11 Hx12))
def slices_pdqsortOrdered_uint32.k3 (Hx12 : Hp) (Iq13 : Int → Int → Int → Bool → Bool → Hp → Prop) (a7 : Int) (bq8 : Int) (datac3 : Nat) (datal2 : Nat) (datap1 : Option Addr) (limit35 : Int) (limit9 : Int) (mu14 : Int → Int → Int → Bool → Bool → Hp → Nat) (pivot54 : Int) (wasBalanced10 : Bool) (wasPartitioned11 : Bool) (x15 : Int) (Hx64 : Hp) : Prop :=
  bc ((decide ((0 : Int) < a7))) (CHK .i64 (a7 - (1 : Int)) fun x65 => IDX x65 datal2 fun k66 => NIL datap1 fun bq67 oq68 => ldI .u32 (rd Hx64 bq67 (oq68 + k66)) fun x69 => IDX pivot54 datal2 fun k70 => NIL datap1 fun bq71 oq72 => ldI .u32 (rd Hx64 bq71 (oq72 + k70)) fun x73 => cmp_Less_uint32.C x69 x73 Hx64 fun r74 Hx75 => bc ((!r74)) (slices_partitionEqualOrdered_uint32.C datap1 datal2 datac3 a7 bq8 pivot54 Hx75 fun r78 Hx79 => Iq13 r78 bq8 limit35 wasBalanced10 wasPartitioned11 Hx79 ∧ mu14 r78 bq8 limit35 wasBalanced10 wasPartitioned11 Hx79 < mu14 a7 bq8 limit9 wasBalanced10 wasPartitioned11 Hx12) (slices_pdqsortOrdered_uint32.k4 Hx12 Iq13 a7 bq8 datac3 datal2 datap1 limit35 limit9 mu14 pivot54 wasBalanced10 wasPartitioned11 x15 a7 Hx75)) (slices_pdqsortOrdered_uint32.k4 Hx12 Iq13 a7 bq8 datac3 datal2 datap1 limit35 limit9 mu14 pivot54 wasBalanced10 wasPartitioned11 x15 a7 Hx64)
def slices_pdqsortOrdered_uint32.k2 (Hx12 : Hp) (Iq13 : Int → Int → Int → Bool → Bool → Hp → Prop) (K : Hp → Prop) (a7 : Int) (bq8 : Int) (datac3 : Nat) (datal2 : Nat) (datap1 : Option Addr) (limit35 : Int) (limit9 : Int) (mu14 : Int → Int → Int → Bool → Bool → Hp → Nat) (wasBalanced10 : Bool) (wasPartitioned11 : Bool) (x15 : Int) (pivot54 : Int) (hint55 : Int) (Hx56 : Hp) : Prop :=
  bc (wasBalanced10) (bc (wasPartitioned11) (bc ((decide (hint55 = (1 : Int)))) (slices_partialInsertionSortOrdered_uint32.C datap1 datal2 datac3 a7 bq8 Hx56 fun r57 Hx58 => bc (r57) (K Hx58) (slices_pdqsortOrdered_uint32.k3 Hx12 Iq13 a7 bq8 datac3 datal2 datap1 limit35 limit9 mu14 pivot54 wasBalanced10 wasPartitioned11 x15 Hx58)) (slices_pdqsortOrdered_uint32.k3 Hx12 Iq13 a7 bq8 datac3 datal2 datap1 limit35 limit9 mu14 pivot54 wasBalanced10 wasPartitioned11 x15 Hx56)) (slices_pdqsortOrdered_uint32.k3 Hx12 Iq13 a7 bq8 datac3 datal2 datap1 limit35 limit9 mu14 pivot54 wasBalanced10 wasPartitioned11 x15 Hx56)) (slices_pdqsortOrdered_uint32.k3 Hx12 Iq13 a7 bq8 datac3 datal2 datap1 limit35 limit9 mu14 pivot54 wasBalanced10 wasPartitioned11 x15 Hx56)
def slices_pdqsortOrdered_uint32.k1 (Hx12 : Hp) (Iq13 : Int → Int → Int → Bool → Bool → Hp → Prop) (K : Hp → Prop) (a7 : Int) (bq8 : Int) (datac3 : Nat) (datal2 : Nat) (datap1 : Option Addr) (limit9 : Int) (mu14 : Int → Int → Int → Bool → Bool → Hp → Nat) (wasBalanced10 : Bool) (wasPartitioned11 : Bool) (x15 : Int) (limit35 : Int) (Hx36 : Hp) : Prop :=
  slices_choosePivotOrdered_uint32.C datap1 datal2 datac3 a7 bq8 Hx36 fun r37 r38 Hx39 => bc ((decide (r38 = (2 : Int)))) (slices_reverseRangeOrdered_uint32.C datap1 datal2 datac3 a7 bq8 Hx39 fun Hx45 => CHK .i64 (bq8 - (1 : Int)) fun x51 => CHK .i64 (r37 - a7) fun x52 => CHK .i64 (x51 - x52) fun x53 => slices_pdqsortOrdered_uint32.k2 Hx12 Iq13 K a7 bq8 datac3 datal2 datap1 limit35 limit9 mu14 wasBalanced10 wasPartitioned11 x15 x53 (1 : Int) Hx45) (slices_pdqsortOrdered_uint32.k2 Hx12 Iq13 K a7 bq8 datac3 datal2 datap1 limit35 limit9 mu14 wasBalanced10 wasPartitioned11 x15 r37 r38 Hx39)
def slices_pdqsortOrdered_uint32.F (datap1 : Option Addr) (datal2 : Nat) (datac3 : Nat) (a4 : Int) (bq5 : Int) (limit6 : Int) (H : Hp) (K : Hp → Prop) : Prop :=
  ∃ (Iq13 : Int → Int → Int → Bool → Bool → Hp → Prop) (mu14 : Int → Int → Int → Bool → Bool → Hp → Nat), Iq13 a4 bq5 limit6 true true H ∧ ∀ (a7 : Int) (bq8 : Int) (limit9 : Int) (wasBalanced10 : Bool) (wasPartitioned11 : Bool) (Hx12 : Hp), Iq13 a7 bq8 limit9 wasBalanced10 wasPartitioned11 Hx12 → CHK .i64 (bq8 - a7) fun x15 => bc ((decide (x15 ≤ (12 : Int)))) (slices_insertionSortOrdered_uint32.C datap1 datal2 datac3 a7 bq8 Hx12 fun Hx16 => K Hx16) (bc ((decide (limit9 = (0 : Int)))) (slices_heapSortOrdered_uint32.C datap1 datal2 datac3 a7 bq8 Hx12 fun Hx22 => K Hx22) (bc ((!wasBalanced10)) (slices_breakPatternsOrdered_uint32.C datap1 datal2 datac3 a7 bq8 Hx12 fun Hx28 => CHK .i64 (limit9 - (1 : Int)) fun x34 => slices_pdqsortOrdered_uint32.k1 Hx12 Iq13 K a7 bq8 datac3 datal2 datap1 limit9 mu14 wasBalanced10 wasPartitioned11 x15 x34 Hx28) (slices_pdqsortOrdered_uint32.k1 Hx12 Iq13 K a7 bq8 datac3 datal2 datap1 limit9 mu14 wasBalanced10 wasPartitioned11 x15 limit9 Hx12)))
theorem slices_pdqsortOrdered_uint32.vc (datap1 : Option Addr) (datal2 : Nat) (datac3 : Nat) (a4 : Int) (bq5 : Int) (limit6 : Int) (H : Hp) (K : Hp → Prop) : vcFun prog tab slices_pdqsortOrdered_uint32.ann none Try.f82 (List.map AV.v [.slice datap1 datal2 datac3, .int .i64 a4, .int .i64 bq5, .int .i64 limit6]) H (fun v H2 _ => tupV v fun vs => d0 vs (K H2)) = slices_pdqsortOrdered_uint32.F datap1 datal2 datac3 a4 bq5 limit6 H K := by kernel_rfl
theorem slices_pdqsortOrdered_uint32.of (datap1 : Option Addr) (datal2 : Nat) (datac3 : Nat) (a4 : Int) (bq5 : Int) (limit6 : Int) {H : Hp} {K : Hp → Prop} (h : slices_pdqsortOrdered_uint32.F datap1 datal2 datac3 a4 bq5 limit6 H K) : slices_pdqsortOrdered_uint32.C datap1 datal2 datac3 a4 bq5 limit6 H K := CallH_of_vc mix tabOk Try.func82 (by kernel_rfl) ((slices_pdqsortOrdered_uint32.vc datap1 datal2 datac3 a4 bq5 limit6 H K).mpr h)
-- math/bits.Len (83)
def math_bits_Len.ann : Ann := { loops := [], pars := [] }
def math_bits_Len.F (x1 : Int) (H : Hp) (K : Int → Hp → Prop) : Prop :=
  math_bits_Len64.C x1 H fun r2 Hx3 => K r2 Hx3
theorem math_bits_Len.vc (x1 : Int) (H : Hp) (K : Int → Hp → Prop) : vcFun prog tab math_bits_Len.ann none Try.f83 (List.map AV.v [.int .u64 x1]) H (fun v H2 _ => liftI .i64 v fun r6 => K r6 H2) = math_bits_Len.F x1 H K := by kernel_rfl
theorem math_bits_Len.of (x1 : Int) {H : Hp} {K : Int → Hp → Prop} (h : math_bits_Len.F x1 H K) : math_bits_Len.C x1 H K := CallH_of_vc mix tabOk Try.func83 (by kernel_rfl) ((math_bits_Len.vc x1 H K).mpr h)
-- cmp.isNaN[int] (84)
def cmp_isNaN_int.ann : Ann := { loops := [], pars := [] }
def cmp_isNaN_int.F (x1 : Int) (H : Hp) (K : Bool → Hp → Prop) : Prop :=
  K (decide (¬ x1 = x1)) H
theorem cmp_isNaN_int.vc (x1 : Int) (H : Hp) (K : Bool → Hp → Prop) : vcFun prog tab cmp_isNaN_int.ann none Try.f84 (List.map AV.v [.int .i64 x1]) H (fun v H2 _ => liftB v fun r3 => K r3 H2) = cmp_isNaN_int.F x1 H K := by kernel_rfl
theorem cmp_isNaN_int.of (x1 : Int) {H : Hp} {K : Bool → Hp → Prop} (h : cmp_isNaN_int.F x1 H K) : cmp_isNaN_int.C x1 H K := CallH_of_vc mix tabOk Try.func84 (by kernel_rfl) ((cmp_isNaN_int.vc x1 H K).mpr h)
-- slices.insertionSortOrdered[uint32] (85)
def slices_insertionSortOrdered_uint32.ann : Ann := { loops := [(0, [(6, .one (.int .i64))]), (2, [(7, .one (.int .i64))])], pars := [] }
def slices_insertionSortOrdered_uint32.k1 (Hx12 : Hp) (Iq13 : Int → Hp → Prop) (datal2 : Nat) (datap1 : Option Addr) (j11 : Int) (mu14 : Int → Hp → Nat) (Hx28 : Hp) : Prop :=
  CHK .i64 (j11 - (1 : Int)) fun x29 => CHK .i64 (j11 - (1 : Int)) fun x30 => IDX x30 datal2 fun k31 => NIL datap1 fun bq32 oq33 => ldI .u32 (rd Hx28 bq32 (oq33 + k31)) fun x34 => IDX j11 datal2 fun k35 => NIL datap1 fun bq36 oq37 => ldI .u32 (rd Hx28 bq36 (oq37 + k35)) fun x38 => IDX j11 datal2 fun k39 => NIL datap1 fun bq40 oq41 => ST Hx28 bq40 (oq41 + k39) (.int .u32 x34) fun Hx42 => IDX x29 datal2 fun k43 => NIL datap1 fun bq44 oq45 => ST Hx42 bq44 (oq45 + k43) (.int .u32 x38) fun Hx46 => CHK .i64 (j11 - (1 : Int)) fun x47 => Iq13 x47 Hx46 ∧ mu14 x47 Hx46 < mu14 j11 Hx12
def slices_insertionSortOrdered_uint32.F (datap1 : Option Addr) (datal2 : Nat) (_datac3 : Nat) (a4 : Int) (bq5 : Int) (H : Hp) (K : Hp → Prop) : Prop :=
  CHK .i64 (a4 + (1 : Int)) fun x6 => ∃ (Iq9 : Int → Hp → Prop) (mu10 : Int → Hp → Nat), Iq9 x6 H ∧ ∀ (i7 : Int) (Hx8 : Hp), Iq9 i7 Hx8 → bc ((decide (i7 < bq5))) (∃ (Iq13 : Int → Hp → Prop) (mu14 : Int → Hp → Nat), Iq13 i7 Hx8 ∧ ∀ (j11 : Int) (Hx12 : Hp), Iq13 j11 Hx12 → bc ((decide (a4 < j11))) (IDX j11 datal2 fun k15 => NIL datap1 fun bq16 oq17 => ldI .u32 (rd Hx12 bq16 (oq17 + k15)) fun x18 => CHK .i64 (j11 - (1 : Int)) fun x19 => IDX x19 datal2 fun k20 => NIL datap1 fun bq21 oq22 => ldI .u32 (rd Hx12 bq21 (oq22 + k20)) fun x23 => cmp_Less_uint32.C x18 x23 Hx12 fun r24 Hx25 => bc (r24) (slices_insertionSortOrdered_uint32.k1 Hx12 Iq13 datal2 datap1 j11 mu14 Hx25) (CHK .i64 (i7 + (1 : Int)) fun x49 => Iq9 x49 Hx25 ∧ mu10 x49 Hx25 < mu10 i7 Hx8)) (CHK .i64 (i7 + (1 : Int)) fun x51 => Iq9 x51 Hx12 ∧ mu10 x51 Hx12 < mu10 i7 Hx8)) (K Hx8)
theorem slices_insertionSortOrdered_uint32.vc (datap1 : Option Addr) (datal2 : Nat) (datac3 : Nat) (a4 : Int) (bq5 : Int) (H : Hp) (K : Hp → Prop) : vcFun prog tab slices_insertionSortOrdered_uint32.ann none Try.f85 (List.map AV.v [.slice datap1 datal2 datac3, .int .i64 a4, .int .i64 bq5]) H (fun v H2 _ => tupV v fun vs => d0 vs (K H2)) = slices_insertionSortOrdered_uint32.F datap1 datal2 datac3 a4 bq5 H K := by kernel_rfl
theorem slices_insertionSortOrdered_uint32.of (datap1 : Option Addr) (datal2 : Nat) (datac3 : Nat) (a4 : Int) (bq5 : Int) {H : Hp} {K : Hp → Prop} (h : slices_insertionSortOrdered_uint32.F datap1 datal2 datac3 a4 bq5 H K) : slices_insertionSortOrdered_uint32.C datap1 datal2 datac3 a4 bq5 H K := CallH_of_vc mix tabOk Try.func85 (by kernel_rfl) ((slices_insertionSortOrdered_uint32.vc datap1 datal2 datac3 a4 bq5 H K).mpr h)
-- slices.heapSortOrdered[uint32] (86)
def slices_heapSortOrdered_uint32.ann : Ann := { loops := [(0, [(9, .one (.int .i64))]), (2, [(10, .one (.int .i64))])], pars := [] }
def slices_heapSortOrdered_uint32.F (datap1 : Option Addr) (datal2 : Nat) (datac3 : Nat) (a4 : Int) (bq5 : Int) (H : Hp) (K : Hp → Prop) : Prop :=
  CHK .i64 (bq5 - a4) fun x6 => CHK .i64 (x6 - (1 : Int)) fun x7 => ¬ (2 : Int) = 0 ∧ (CHK .i64 (Int.tdiv x7 (2 : Int)) fun x8 => ∃ (Iq11 : Int → Hp → Prop) (mu12 : Int → Hp → Nat), Iq11 x8 H ∧ ∀ (i9 : Int) (Hx10 : Hp), Iq11 i9 Hx10 → bc ((decide ((0 : Int) ≤ i9))) (slices_siftDownOrdered_uint32.C datap1 datal2 datac3 i9 x6 a4 Hx10 fun Hx13 => CHK .i64 (i9 - (1 : Int)) fun x20 => Iq11 x20 Hx13 ∧ mu12 x20 Hx13 < mu12 i9 Hx10) (CHK .i64 (x6 - (1 : Int)) fun x22 => ∃ (Iq25 : Int → Hp → Prop) (mu26 : Int → Hp → Nat), Iq25 x22 Hx10 ∧ ∀ (i23 : Int) (Hx24 : Hp), Iq25 i23 Hx24 → bc ((decide ((0 : Int) ≤ i23))) (CHK .i64 (a4 + i23) fun x27 => CHK .i64 (a4 + i23) fun x28 => IDX x28 datal2 fun k29 => NIL datap1 fun bq30 oq31 => ldI .u32 (rd Hx24 bq30 (oq31 + k29)) fun x32 => IDX a4 datal2 fun k33 => NIL datap1 fun bq34 oq35 => ldI .u32 (rd Hx24 bq34 (oq35 + k33)) fun x36 => IDX a4 datal2 fun k37 => NIL datap1 fun bq38 oq39 => ST Hx24 bq38 (oq39 + k37) (.int .u32 x32) fun Hx40 => IDX x27 datal2 fun k41 => NIL datap1 fun bq42 oq43 => ST Hx40 bq42 (oq43 + k41) (.int .u32 x36) fun Hx44 => slices_siftDownOrdered_uint32.C datap1 datal2 datac3 (0 : Int) i23 a4 Hx44 fun Hx45 => CHK .i64 (i23 - (1 : Int)) fun x52 => Iq25 x52 Hx45 ∧ mu26 x52 Hx45 < mu26 i23 Hx24) (K Hx24)))
theorem slices_heapSortOrdered_uint32.vc (datap1 : Option Addr) (datal2 : Nat) (datac3 : Nat) (a4 : Int) (bq5 : Int) (H : Hp) (K : Hp → Prop) : vcFun prog tab slices_heapSortOrdered_uint32.ann none Try.f86 (List.map AV.v [.slice datap1 datal2 datac3, .int .i64 a4, .int .i64 bq5]) H (fun v H2 _ => tupV v fun vs => d0 vs (K H2)) = slices_heapSortOrdered_uint32.F datap1 datal2 datac3 a4 bq5 H K := by kernel_rfl
theorem slices_heapSortOrdered_uint32.of (datap1 : Option Addr) (datal2 : Nat) (datac3 : Nat) (a4 : Int) (bq5 : Int) {H : Hp} {K : Hp → Prop} (h : slices_heapSortOrdered_uint32.F datap1 datal2 datac3 a4 bq5 H K) : slices_heapSortOrdered_uint32.C datap1 datal2 datac3 a4 bq5 H K := CallH_of_vc mix tabOk Try.func86 (by kernel_rfl) ((slices_heapSortOrdered_uint32.vc datap1 datal2 datac3 a4 bq5 H K).mpr h)
-- slices.breakPatternsOrdered[uint32] (87)
def slices_breakPatternsOrdered_uint32.ann : Ann := { loops := [(0, [(9, .one (.int .i64))])], pars := [] }
def slices_breakPatternsOrdered_uint32.k1 (Hx18 : Hp) (Iq19 : Int → Hp → Prop) (a4 : Int) (datal2 : Nat) (datap1 : Option Addr) (idx17 : Int) (mu20 : Int → Hp → Nat) (other29 : Int) (Hx30 : Hp) : Prop :=
  CHK .i64 (a4 + other29) fun x31 => CHK .i64 (a4 + other29) fun x32 => IDX x32 datal2 fun k33 => NIL datap1 fun bq34 oq35 => ldI .u32 (rd Hx30 bq34 (oq35 + k33)) fun x36 => IDX idx17 datal2 fun k37 => NIL datap1 fun bq38 oq39 => ldI .u32 (rd Hx30 bq38 (oq39 + k37)) fun x40 => IDX idx17 datal2 fun k41 => NIL datap1 fun bq42 oq43 => ST Hx30 bq42 (oq43 + k41) (.int .u32 x36) fun Hx44 => IDX x31 datal2 fun k45 => NIL datap1 fun bq46 oq47 => ST Hx44 bq46 (oq47 + k45) (.int .u32 x40) fun Hx48 => CHK .i64 (idx17 + (1 : Int)) fun x49 => Iq19 x49 Hx48 ∧ mu20 x49 Hx48 < mu20 idx17 Hx18
def slices_breakPatternsOrdered_uint32.F (datap1 : Option Addr) (datal2 : Nat) (_datac3 : Nat) (a4 : Int) (bq5 : Int) (H : Hp) (K : Hp → Prop) : Prop :=
  CHK .i64 (bq5 - a4) fun x6 => bc ((decide ((8 : Int) ≤ x6))) (NEW H [.int .u64 (0 : Int)] fun bq7 Hx8 => ST Hx8 bq7 0 (.int .u64 (IntKind.wrap .u64 x6)) fun Hx9 => slices_nextPowerOfTwo.C x6 Hx9 fun r10 Hx11 => ¬ (4 : Int) = 0 ∧ (CHK .i64 (Int.tdiv x6 (4 : Int)) fun x13 => CHK .i64 (x13 * (2 : Int)) fun x14 => CHK .i64 (a4 + x14) fun x15 => CHK .i64 (x15 - (1 : Int)) fun x16 => ∃ (Iq19 : Int → Hp → Prop) (mu20 : Int → Hp → Nat), Iq19 x16 Hx11 ∧ ∀ (idx17 : Int) (Hx18 : Hp), Iq19 idx17 Hx18 → ¬ (4 : Int) = 0 ∧ (CHK .i64 (Int.tdiv x6 (4 : Int)) fun x21 => CHK .i64 (x21 * (2 : Int)) fun x22 => CHK .i64 (a4 + x22) fun x23 => CHK .i64 (x23 + (1 : Int)) fun x24 => bc ((decide (idx17 ≤ x24))) (slices_xorshift_Next.C (some ⟨bq7, 0, none⟩) Hx18 fun r25 Hx26 => bc ((decide (x6 ≤ (IntKind.wrap .i64 (iand .u64 r25 (IntKind.wrap .u64 (r10 - (1 : Int)))))))) (CHK .i64 ((IntKind.wrap .i64 (iand .u64 r25 (IntKind.wrap .u64 (r10 - (1 : Int))))) - x6) fun x28 => slices_breakPatternsOrdered_uint32.k1 Hx18 Iq19 a4 datal2 datap1 idx17 mu20 x28 Hx26) (slices_breakPatternsOrdered_uint32.k1 Hx18 Iq19 a4 datal2 datap1 idx17 mu20 (IntKind.wrap .i64 (iand .u64 r25 (IntKind.wrap .u64 (r10 - (1 : Int))))) Hx26)) (K Hx18)))) (K H)
theorem slices_breakPatternsOrdered_uint32.vc (datap1 : Option Addr) (datal2 : Nat) (datac3 : Nat) (a4 : Int) (bq5 : Int) (H : Hp) (K : Hp → Prop) : vcFun prog tab slices_breakPatternsOrdered_uint32.ann none Try.f87 (List.map AV.v [.slice datap1 datal2 datac3, .int .i64 a4, .int .i64 bq5]) H (fun v H2 _ => tupV v fun vs => d0 vs (K H2)) = slices_breakPatternsOrdered_uint32.F datap1 datal2 datac3 a4 bq5 H K := by kernel_rfl
theorem slices_breakPatternsOrdered_uint32.of (datap1 : Option Addr) (datal2 : Nat) (datac3 : Nat) (a4 : Int) (bq5 : Int) {H : Hp} {K : Hp → Prop} (h : slices_breakPatternsOrdered_uint32.F datap1 datal2 datac3 a4 bq5 H K) : slices_breakPatternsOrdered_uint32.C datap1 datal2 datac3 a4 bq5 H K := CallH_of_vc mix tabOk Try.func87 (by kernel_rfl) ((slices_breakPatternsOrdered_uint32.vc datap1 datal2 datac3 a4 bq5 H K).mpr h)
-- slices.choosePivotOrdered[uint32] (88)
def slices_choosePivotOrdered_uint32.ann : Ann := { loops := [], pars := [] }
def slices_choosePivotOrdered_uint32.k1 (K : Int → Int → Hp → Prop) (bq7 : Nat) (j48 : Int) (Hx49 : Hp) : Prop :=
  ldI .i64 (rd Hx49 bq7 0) fun x50 => bc ((decide (x50 = (0 : Int)))) (K j48 (1 : Int) Hx49) (bc ((decide (x50 = (12 : Int)))) (K j48 (2 : Int) Hx49) (K j48 (0 : Int) Hx49))
def slices_choosePivotOrdered_uint32.F (datap1 : Option Addr) (datal2 : Nat) (datac3 : Nat) (a4 : Int) (bq5 : Int) (H : Hp) (K : Int → Int → Hp → Prop) : Prop :=
  CHK .i64 (bq5 - a4) fun x6 => NEW H [.int .i64 (0 : Int)] fun bq7 Hx8 => ¬ (4 : Int) = 0 ∧ (CHK .i64 (Int.tdiv x6 (4 : Int)) fun x9 => CHK .i64 (x9 * (1 : Int)) fun x10 => CHK .i64 (a4 + x10) fun x11 => ¬ (4 : Int) = 0 ∧ (CHK .i64 (Int.tdiv x6 (4 : Int)) fun x12 => CHK .i64 (x12 * (2 : Int)) fun x13 => CHK .i64 (a4 + x13) fun x14 => ¬ (4 : Int) = 0 ∧ (CHK .i64 (Int.tdiv x6 (4 : Int)) fun x15 => CHK .i64 (x15 * (3 : Int)) fun x16 => CHK .i64 (a4 + x16) fun x17 => bc ((decide ((8 : Int) ≤ x6))) (bc ((decide ((50 : Int) ≤ x6))) (slices_medianAdjacentOrdered_uint32.C datap1 datal2 datac3 x11 (some ⟨bq7, 0, none⟩) Hx8 fun r18 Hx19 => slices_medianAdjacentOrdered_uint32.C datap1 datal2 datac3 x14 (some ⟨bq7, 0, none⟩) Hx19 fun r25 Hx26 => slices_medianAdjacentOrdered_uint32.C datap1 datal2 datac3 x17 (some ⟨bq7, 0, none⟩) Hx26 fun r32 Hx33 => slices_medianOrdered_uint32.C datap1 datal2 datac3 r18 r25 r32 (some ⟨bq7, 0, none⟩) Hx33 fun r39 Hx40 => slices_choosePivotOrdered_uint32.k1 K bq7 r39 Hx40) (slices_medianOrdered_uint32.C datap1 datal2 datac3 x11 x14 x17 (some ⟨bq7, 0, none⟩) Hx8 fun r58 Hx59 => slices_choosePivotOrdered_uint32.k1 K bq7 r58 Hx59)) (slices_choosePivotOrdered_uint32.k1 K bq7 x14 Hx8))))
theorem slices_choosePivotOrdered_uint32.vc (datap1 : Option Addr) (datal2 : Nat) (datac3 : Nat) (a4 : Int) (bq5 : Int) (H : Hp) (K : Int → Int → Hp → Prop) : vcFun prog tab slices_choosePivotOrdered_uint32.ann none Try.f88 (List.map AV.v [.slice datap1 datal2 datac3, .int .i64 a4, .int .i64 bq5]) H (fun v H2 _ => tupV v fun vs => d2 vs fun wv0 wv1 => liftI .i64 wv0 fun r69 => liftI .i64 wv1 fun r70 => K r69 r70 H2) = slices_choosePivotOrdered_uint32.F datap1 datal2 datac3 a4 bq5 H K := by kernel_rfl
theorem slices_choosePivotOrdered_uint32.of (datap1 : Option Addr) (datal2 : Nat) (datac3 : Nat) (a4 : Int) (bq5 : Int) {H : Hp} {K : Int → Int → Hp → Prop} (h : slices_choosePivotOrdered_uint32.F datap1 datal2 datac3 a4 bq5 H K) : slices_choosePivotOrdered_uint32.C datap1 datal2 datac3 a4 bq5 H K := CallH_of_vc mix tabOk Try.func88 (by kernel_rfl) ((slices_choosePivotOrdered_uint32.vc datap1 datal2 datac3 a4 bq5 H K).mpr h)
-- slices.reverseRangeOrdered[uint32] (89)
def slices_reverseRangeOrdered_uint32.ann : Ann := { loops := [(0, [(6, .one (.int .i64)), (7, .one (.int .i64))])], pars := [] }
def slices_reverseRangeOrdered_uint32.F (datap1 : Option Addr) (datal2 : Nat) (_datac3 : Nat) (a4 : Int) (bq5 : Int) (H : Hp) (K : Hp → Prop) : Prop :=
  CHK .i64 (bq5 - (1 : Int)) fun x6 => ∃ (Iq10 : Int → Int → Hp → Prop) (mu11 : Int → Int → Hp → Nat), Iq10 a4 x6 H ∧ ∀ (i7 : Int) (j8 : Int) (Hx9 : Hp), Iq10 i7 j8 Hx9 → bc ((decide (i7 < j8))) (IDX j8 datal2 fun k12 => NIL datap1 fun bq13 oq14 => ldI .u32 (rd Hx9 bq13 (oq14 + k12)) fun x15 => IDX i7 datal2 fun k16 => NIL datap1 fun bq17 oq18 => ldI .u32 (rd Hx9 bq17 (oq18 + k16)) fun x19 => IDX i7 datal2 fun k20 => NIL datap1 fun bq21 oq22 => ST Hx9 bq21 (oq22 + k20) (.int .u32 x15) fun Hx23 => IDX j8 datal2 fun k24 => NIL datap1 fun bq25 oq26 => ST Hx23 bq25 (oq26 + k24) (.int .u32 x19) fun Hx27 => CHK .i64 (i7 + (1 : Int)) fun x28 => CHK .i64 (j8 - (1 : Int)) fun x29 => Iq10 x28 x29 Hx27 ∧ mu11 x28 x29 Hx27 < mu11 i7 j8 Hx9) (K Hx9)
theorem slices_reverseRangeOrdered_uint32.vc (datap1 : Option Addr) (datal2 : Nat) (datac3 : Nat) (a4 : Int) (bq5 : Int) (H : Hp) (K : Hp → Prop) : vcFun prog tab slices_reverseRangeOrdered_uint32.ann none Try.f89 (List.map AV.v [.slice datap1 datal2 datac3, .int .i64 a4, .int .i64 bq5]) H (fun v H2 _ => tupV v fun vs => d0 vs (K H2)) = slices_reverseRangeOrdered_uint32.F datap1 datal2 datac3 a4 bq5 H K := by kernel_rfl
theorem slices_reverseRangeOrdered_uint32.of (datap1 : Option Addr) (datal2 : Nat) (datac3 : Nat) (a4 : Int) (bq5 : Int) {H : Hp} {K : Hp → Prop} (h : slices_reverseRangeOrdered_uint32.F datap1 datal2 datac3 a4 bq5 H K) : slices_reverseRangeOrdered_uint32.C datap1 datal2 datac3 a4 bq5 H K := CallH_of_vc mix tabOk Try.func89 (by kernel_rfl) ((slices_reverseRangeOrdered_uint32.vc datap1 datal2 datac3 a4 bq5 H K).mpr h)
-- slices.partialInsertionSortOrdered[uint32] (90)
def slices_partialInsertionSortOrdered_uint32.ann : Ann := { loops := [(0, [(7, .one (.int .i64)), (8, .one (.int .i64))]), (2, [(7, .one (.int .i64))]), (4, [(9, .one (.int .i64))]), (6, [(10, .one (.int .i64))])], pars := [] }
def slices_partialInsertionSortOrdered_uint32.k2 (Hx9 : Hp) (Iq10 : Int → Int → Hp → Prop) (bq5 : Int) (datal2 : Nat) (datap1 : Option Addr) (i31 : Int) (i7 : Int) (j8 : Int) (mu11 : Int → Int → Hp → Nat) (Hx73 : Hp) : Prop :=
  CHK .i64 (bq5 - i31) fun x74 => bc ((decide ((2 : Int) ≤ x74))) (CHK .i64 (i31 + (1 : Int)) fun x75 => ∃ (Iq78 : Int → Hp → Prop) (mu79 : Int → Hp → Nat), Iq78 x75 Hx73 ∧ ∀ (j76 : Int) (Hx77 : Hp), Iq78 j76 Hx77 → bc ((decide (j76 < bq5))) (IDX j76 datal2 fun k80 => NIL datap1 fun bq81 oq82 => ldI .u32 (rd Hx77 bq81 (oq82 + k80)) fun x83 => CHK .i64 (j76 - (1 : Int)) fun x84 => IDX x84 datal2 fun k85 => NIL datap1 fun bq86 oq87 => ldI .u32 (rd Hx77 bq86 (oq87 + k85)) fun x88 => cmp_Less_uint32.C x83 x88 Hx77 fun r89 Hx90 => bc ((!r89)) (CHK .i64 (j8 + (1 : Int)) fun x93 => Iq10 i31 x93 Hx90 ∧ mu11 i31 x93 Hx90 < mu11 i7 j8 Hx9) (CHK .i64 (j76 - (1 : Int)) fun x96 => CHK .i64 (j76 - (1 : Int)) fun x97 => IDX x97 datal2 fun k98 => NIL datap1 fun bq99 oq100 => ldI .u32 (rd Hx90 bq99 (oq100 + k98)) fun x101 => IDX j76 datal2 fun k102 => NIL datap1 fun bq103 oq104 => ldI .u32 (rd Hx90 bq103 (oq104 + k102)) fun x105 => IDX j76 datal2 fun k106 => NIL datap1 fun bq107 oq108 => ST Hx90 bq107 (oq108 + k106) (.int .u32 x101) fun Hx109 => IDX x96 datal2 fun k110 => NIL datap1 fun bq111 oq112 => ST Hx109 bq111 (oq112 + k110) (.int .u32 x105) fun Hx113 => CHK .i64 (j76 + (1 : Int)) fun x114 => Iq78 x114 Hx113 ∧ mu79 x114 Hx113 < mu79 j76 Hx77)) (CHK .i64 (j8 + (1 : Int)) fun x116 => Iq10 i31 x116 Hx77 ∧ mu11 i31 x116 Hx77 < mu11 i7 j8 Hx9)) (CHK .i64 (j8 + (1 : Int)) fun x119 => Iq10 i31 x119 Hx73 ∧ mu11 i31 x119 Hx73 < mu11 i7 j8 Hx9)
def slices_partialInsertionSortOrdered_uint32.k1 (Hx9 : Hp) (Iq10 : Int → Int → Hp → Prop) (K : Bool → Hp → Prop) (a4 : Int) (bq5 : Int) (datal2 : Nat) (datap1 : Option Addr) (i7 : Int) (j8 : Int) (mu11 : Int → Int → Hp → Nat) (i31 : Int) (Hx32 : Hp) : Prop :=
  bc ((decide (i31 = bq5))) (K true Hx32) (CHK .i64 (bq5 - a4) fun x34 => bc ((decide (x34 < (50 : Int)))) (K false Hx32) (CHK .i64 (i31 - (1 : Int)) fun x36 => CHK .i64 (i31 - (1 : Int)) fun x37 => IDX x37 datal2 fun k38 => NIL datap1 fun bq39 oq40 => ldI .u32 (rd Hx32 bq39 (oq40 + k38)) fun x41 => IDX i31 datal2 fun k42 => NIL datap1 fun bq43 oq44 => ldI .u32 (rd Hx32 bq43 (oq44 + k42)) fun x45 => IDX i31 datal2 fun k46 => NIL datap1 fun bq47 oq48 => ST Hx32 bq47 (oq48 + k46) (.int .u32 x41) fun Hx49 => IDX x36 datal2 fun k50 => NIL datap1 fun bq51 oq52 => ST Hx49 bq51 (oq52 + k50) (.int .u32 x45) fun Hx53 => CHK .i64 (i31 - a4) fun x54 => bc ((decide ((2 : Int) ≤ x54))) (CHK .i64 (i31 - (1 : Int)) fun x55 => ∃ (Iq58 : Int → Hp → Prop) (mu59 : Int → Hp → Nat), Iq58 x55 Hx53 ∧ ∀ (j56 : Int) (Hx57 : Hp), Iq58 j56 Hx57 → bc ((decide ((1 : Int) ≤ j56))) (IDX j56 datal2 fun k60 => NIL datap1 fun bq61 oq62 => ldI .u32 (rd Hx57 bq61 (oq62 + k60)) fun x63 => CHK .i64 (j56 - (1 : Int)) fun x64 => IDX x64 datal2 fun k65 => NIL datap1 fun bq66 oq67 => ldI .u32 (rd Hx57 bq66 (oq67 + k65)) fun x68 => cmp_Less_uint32.C x63 x68 Hx57 fun r69 Hx70 => bc ((!r69)) (slices_partialInsertionSortOrdered_uint32.k2 Hx9 Iq10 bq5 datal2 datap1 i31 i7 j8 mu11 Hx70) (CHK .i64 (j56 - (1 : Int)) fun x122 => CHK .i64 (j56 - (1 : Int)) fun x123 => IDX x123 datal2 fun k124 => NIL datap1 fun bq125 oq126 => ldI .u32 (rd Hx70 bq125 (oq126 + k124)) fun x127 => IDX j56 datal2 fun k128 => NIL datap1 fun bq129 oq130 => ldI .u32 (rd Hx70 bq129 (oq130 + k128)) fun x131 => IDX j56 datal2 fun k132 => NIL datap1 fun bq133 oq134 => ST Hx70 bq133 (oq134 + k132) (.int .u32 x127) fun Hx135 => IDX x122 datal2 fun k136 => NIL datap1 fun bq137 oq138 => ST Hx135 bq137 (oq138 + k136) (.int .u32 x131) fun Hx139 => CHK .i64 (j56 - (1 : Int)) fun x140 => Iq58 x140 Hx139 ∧ mu59 x140 Hx139 < mu59 j56 Hx57)) (slices_partialInsertionSortOrdered_uint32.k2 Hx9 Iq10 bq5 datal2 datap1 i31 i7 j8 mu11 Hx57)) (slices_partialInsertionSortOrdered_uint32.k2 Hx9 Iq10 bq5 datal2 datap1 i31 i7 j8 mu11 Hx53)))
def slices_partialInsertionSortOrdered_uint32.F (datap1 : Option Addr) (datal2 : Nat) (_datac3 : Nat) (a4 : Int) (bq5 : Int) (H : Hp) (K : Bool → Hp → Prop) : Prop :=
  CHK .i64 (a4 + (1 : Int)) fun x6 => ∃ (Iq10 : Int → Int → Hp → Prop) (mu11 : Int → Int → Hp → Nat), Iq10 x6 (0 : Int) H ∧ ∀ (i7 : Int) (j8 : Int) (Hx9 : Hp), Iq10 i7 j8 Hx9 → bc ((decide (j8 < (5 : Int)))) (∃ (Iq14 : Int → Hp → Prop) (mu15 : Int → Hp → Nat), Iq14 i7 Hx9 ∧ ∀ (i12 : Int) (Hx13 : Hp), Iq14 i12 Hx13 → bc ((decide (i12 < bq5))) (IDX i12 datal2 fun k16 => NIL datap1 fun bq17 oq18 => ldI .u32 (rd Hx13 bq17 (oq18 + k16)) fun x19 => CHK .i64 (i12 - (1 : Int)) fun x20 => IDX x20 datal2 fun k21 => NIL datap1 fun bq22 oq23 => ldI .u32 (rd Hx13 bq22 (oq23 + k21)) fun x24 => cmp_Less_uint32.C x19 x24 Hx13 fun r25 Hx26 => bc ((!r25)) (CHK .i64 (i12 + (1 : Int)) fun x29 => Iq14 x29 Hx26 ∧ mu15 x29 Hx26 < mu15 i12 Hx13) (slices_partialInsertionSortOrdered_uint32.k1 Hx9 Iq10 K a4 bq5 datal2 datap1 i7 j8 mu11 i12 Hx26)) (slices_partialInsertionSortOrdered_uint32.k1 Hx9 Iq10 K a4 bq5 datal2 datap1 i7 j8 mu11 i12 Hx13)) (K false Hx9)
theorem slices_partialInsertionSortOrdered_uint32.vc (datap1 : Option Addr) (datal2 : Nat) (datac3 : Nat) (a4 : Int) (bq5 : Int) (H : Hp) (K : Bool → Hp → Prop) : vcFun prog tab slices_partialInsertionSortOrdered_uint32.ann none Try.f90 (List.map AV.v [.slice datap1 datal2 datac3, .int .i64 a4, .int .i64 bq5]) H (fun v H2 _ => liftB v fun r145 => K r145 H2) = slices_partialInsertionSortOrdered_uint32.F datap1 datal2 datac3 a4 bq5 H K := by kernel_rfl
theorem slices_partialInsertionSortOrdered_uint32.of (datap1 : Option Addr) (datal2 : Nat) (datac3 : Nat) (a4 : Int) (bq5 : Int) {H : Hp} {K : Bool → Hp → Prop} (h : slices_partialInsertionSortOrdered_uint32.F datap1 datal2 datac3 a4 bq5 H K) : slices_partialInsertionSortOrdered_uint32.C datap1 datal2 datac3 a4 bq5 H K := CallH_of_vc mix tabOk Try.func90 (by kernel_rfl) ((slices_partialInsertionSortOrdered_uint32.vc datap1 datal2 datac3 a4 bq5 H K).mpr h)
-- cmp.Less[uint32] (91)
def cmp_Less_uint32.ann : Ann := { loops := [], pars := [] }
def cmp_Less_uint32.F (x1 : Int) (y2 : Int) (H : Hp) (K : Bool → Hp → Prop) : Prop :=
  cmp_isNaN_uint32.C x1 H fun r3 Hx4 => bc (r3) (cmp_isNaN_uint32.C y2 Hx4 fun r6 Hx7 => bc ((!r6)) (K true Hx7) (K (decide (x1 < y2)) Hx7)) (K (decide (x1 < y2)) Hx4)
theorem cmp_Less_uint32.vc (x1 : Int) (y2 : Int) (H : Hp) (K : Bool → Hp → Prop) : vcFun prog tab cmp_Less_uint32.ann none Try.f91 (List.map AV.v [.int .u32 x1, .int .u32 y2]) H (fun v H2 _ => liftB v fun r12 => K r12 H2) = cmp_Less_uint32.F x1 y2 H K := by kernel_rfl
theorem cmp_Less_uint32.of (x1 : Int) (y2 : Int) {H : Hp} {K : Bool → Hp → Prop} (h : cmp_Less_uint32.F x1 y2 H K) : cmp_Less_uint32.C x1 y2 H K := CallH_of_vc mix tabOk Try.func91 (by kernel_rfl) ((cmp_Less_uint32.vc x1 y2 H K).mpr h)
-- slices.partitionEqualOrdered[uint32] (92)
def slices_partitionEqualOrdered_uint32.ann : Ann := { loops := [(0, [(9, .one (.int .i64)), (10, .one (.int .i64))]), (2, [(9, .one (.int .i64))]), (4, [(10, .one (.int .i64))])], pars := [] }
def slices_partitionEqualOrdered_uint32.k2 (Hx27 : Hp) (Iq28 : Int → Int → Hp → Prop) (K : Int → Hp → Prop) (datal2 : Nat) (datap1 : Option Addr) (i25 : Int) (i48 : Int) (j26 : Int) (mu29 : Int → Int → Hp → Nat) (j68 : Int) (Hx69 : Hp) : Prop :=
  bc ((decide (j68 < i48))) (K i48 Hx69) (IDX j68 datal2 fun k71 => NIL datap1 fun bq72 oq73 => ldI .u32 (rd Hx69 bq72 (oq73 + k71)) fun x74 => IDX i48 datal2 fun k75 => NIL datap1 fun bq76 oq77 => ldI .u32 (rd Hx69 bq76 (oq77 + k75)) fun x78 => IDX i48 datal2 fun k79 => NIL datap1 fun bq80 oq81 => ST Hx69 bq80 (oq81 + k79) (.int .u32 x74) fun Hx82 => IDX j68 datal2 fun k83 => NIL datap1 fun bq84 oq85 => ST Hx82 bq84 (oq85 + k83) (.int .u32 x78) fun Hx86 => CHK .i64 (i48 + (1 : Int)) fun x87 => CHK .i64 (j68 - (1 : Int)) fun x88 => Iq28 x87 x88 Hx86 ∧ mu29 x87 x88 Hx86 < mu29 i25 j26 Hx27)
def slices_partitionEqualOrdered_uint32.k1 (Hx27 : Hp) (Iq28 : Int → Int → Hp → Prop) (K : Int → Hp → Prop) (a4 : Int) (datal2 : Nat) (datap1 : Option Addr) (i25 : Int) (j26 : Int) (mu29 : Int → Int → Hp → Nat) (i48 : Int) (Hx49 : Hp) : Prop :=
  ∃ (Iq52 : Int → Hp → Prop) (mu53 : Int → Hp → Nat), Iq52 j26 Hx49 ∧ ∀ (j50 : Int) (Hx51 : Hp), Iq52 j50 Hx51 → bc ((decide (i48 ≤ j50))) (IDX a4 datal2 fun k54 => NIL datap1 fun bq55 oq56 => ldI .u32 (rd Hx51 bq55 (oq56 + k54)) fun x57 => IDX j50 datal2 fun k58 => NIL datap1 fun bq59 oq60 => ldI .u32 (rd Hx51 bq59 (oq60 + k58)) fun x61 => cmp_Less_uint32.C x57 x61 Hx51 fun r62 Hx63 => bc (r62) (CHK .i64 (j50 - (1 : Int)) fun x66 => Iq52 x66 Hx63 ∧ mu53 x66 Hx63 < mu53 j50 Hx51) (slices_partitionEqualOrdered_uint32.k2 Hx27 Iq28 K datal2 datap1 i25 i48 j26 mu29 j50 Hx63)) (slices_partitionEqualOrdered_uint32.k2 Hx27 Iq28 K datal2 datap1 i25 i48 j26 mu29 j50 Hx51)
def slices_partitionEqualOrdered_uint32.F (datap1 : Option Addr) (datal2 : Nat) (_datac3 : Nat) (a4 : Int) (bq5 : Int) (pivot6 : Int) (H : Hp) (K : Int → Hp → Prop) : Prop :=
  IDX pivot6 datal2 fun k7 => NIL datap1 fun bq8 oq9 => ldI .u32 (rd H bq8 (oq9 + k7)) fun x10 => IDX a4 datal2 fun k11 => NIL datap1 fun bq12 oq13 => ldI .u32 (rd H bq12 (oq13 + k11)) fun x14 => IDX a4 datal2 fun k15 => NIL datap1 fun bq16 oq17 => ST H bq16 (oq17 + k15) (.int .u32 x10) fun Hx18 => IDX pivot6 datal2 fun k19 => NIL datap1 fun bq20 oq21 => ST Hx18 bq20 (oq21 + k19) (.int .u32 x14) fun Hx22 => CHK .i64 (a4 + (1 : Int)) fun x23 => CHK .i64 (bq5 - (1 : Int)) fun x24 => ∃ (Iq28 : Int → Int → Hp → Prop) (mu29 : Int → Int → Hp → Nat), Iq28 x23 x24 Hx22 ∧ ∀ (i25 : Int) (j26 : Int) (Hx27 : Hp), Iq28 i25 j26 Hx27 → ∃ (Iq32 : Int → Hp → Prop) (mu33 : Int → Hp → Nat), Iq32 i25 Hx27 ∧ ∀ (i30 : Int) (Hx31 : Hp), Iq32 i30 Hx31 → bc ((decide (i30 ≤ j26))) (IDX a4 datal2 fun k34 => NIL datap1 fun bq35 oq36 => ldI .u32 (rd Hx31 bq35 (oq36 + k34)) fun x37 => IDX i30 datal2 fun k38 => NIL datap1 fun bq39 oq40 => ldI .u32 (rd Hx31 bq39 (oq40 + k38)) fun x41 => cmp_Less_uint32.C x37 x41 Hx31 fun r42 Hx43 => bc ((!r42)) (CHK .i64 (i30 + (1 : Int)) fun x46 => Iq32 x46 Hx43 ∧ mu33 x46 Hx43 < mu33 i30 Hx31) (slices_partitionEqualOrdered_uint32.k1 Hx27 Iq28 K a4 datal2 datap1 i25 j26 mu29 i30 Hx43)) (slices_partitionEqualOrdered_uint32.k1 Hx27 Iq28 K a4 datal2 datap1 i25 j26 mu29 i30 Hx31)
theorem slices_partitionEqualOrdered_uint32.vc (datap1 : Option Addr) (datal2 : Nat) (datac3 : Nat) (a4 : Int) (bq5 : Int) (pivot6 : Int) (H : Hp) (K : Int → Hp → Prop) : vcFun prog tab slices_partitionEqualOrdered_uint32.ann none Try.f92 (List.map AV.v [.slice datap1 datal2 datac3, .int .i64 a4, .int .i64 bq5, .int .i64 pivot6]) H (fun v H2 _ => liftI .i64 v fun r95 => K r95 H2) = slices_partitionEqualOrdered_uint32.F datap1 datal2 datac3 a4 bq5 pivot6 H K := by kernel_rfl
theorem slices_partitionEqualOrdered_uint32.of (datap1 : Option Addr) (datal2 : Nat) (datac3 : Nat) (a4 : Int) (bq5 : Int) (pivot6 : Int) {H : Hp} {K : Int → Hp → Prop} (h : slices_partitionEqualOrdered_uint32.F datap1 datal2 datac3 a4 bq5 pivot6 H K) : slices_partitionEqualOrdered_uint32.C datap1 datal2 datac3 a4 bq5 pivot6 H K := CallH_of_vc mix tabOk Try.func92 (by kernel_rfl) ((slices_partitionEqualOrdered_uint32.vc datap1 datal2 datac3 a4 bq5 pivot6 H K).mpr h)
-- slices.partitionOrdered[uint32] (93)
def slices_partitionOrdered_uint32.ann : Ann := { loops := [(0, [(10, .one (.int .i64))]), (2, [(11, .one (.int .i64))]), (4, [(10, .one (.int .i64)), (11, .one (.int .i64))]), (6, [(10, .one (.int .i64))]), (8, [(11, .one (.int .i64))])], pars := [] }
def slices_partitionOrdered_uint32.k5 (K : Int → Bool → Hp → Prop) (a4 : Int) (datal2 : Nat) (datap1 : Option Addr) (j146 : Int) (Hx147 : Hp) : Prop :=
  IDX a4 datal2 fun k148 => NIL datap1 fun bq149 oq150 => ldI .u32 (rd Hx147 bq149 (oq150 + k148)) fun x151 => IDX j146 datal2 fun k152 => NIL datap1 fun bq153 oq154 => ldI .u32 (rd Hx147 bq153 (oq154 + k152)) fun x155 => IDX j146 datal2 fun k156 => NIL datap1 fun bq157 oq158 => ST Hx147 bq157 (oq158 + k156) (.int .u32 x151) fun Hx159 => IDX a4 datal2 fun k160 => NIL datap1 fun bq161 oq162 => ST Hx159 bq161 (oq162 + k160) (.int .u32 x155) fun Hx163 => K j146 false Hx163
def slices_partitionOrdered_uint32.k4 (Hx103 : Hp) (Iq104 : Int → Int → Hp → Prop) (K : Int → Bool → Hp → Prop) (a4 : Int) (datal2 : Nat) (datap1 : Option Addr) (i101 : Int) (i124 : Int) (j102 : Int) (mu105 : Int → Int → Hp → Nat) (j144 : Int) (Hx145 : Hp) : Prop :=
  bc ((decide (j144 < i124))) (slices_partitionOrdered_uint32.k5 K a4 datal2 datap1 j144 Hx145) (IDX j144 datal2 fun k167 => NIL datap1 fun bq168 oq169 => ldI .u32 (rd Hx145 bq168 (oq169 + k167)) fun x170 => IDX i124 datal2 fun k171 => NIL datap1 fun bq172 oq173 => ldI .u32 (rd Hx145 bq172 (oq173 + k171)) fun x174 => IDX i124 datal2 fun k175 => NIL datap1 fun bq176 oq177 => ST Hx145 bq176 (oq177 + k175) (.int .u32 x170) fun Hx178 => IDX j144 datal2 fun k179 => NIL datap1 fun bq180 oq181 => ST Hx178 bq180 (oq181 + k179) (.int .u32 x174) fun Hx182 => CHK .i64 (i124 + (1 : Int)) fun x183 => CHK .i64 (j144 - (1 : Int)) fun x184 => Iq104 x183 x184 Hx182 ∧ mu105 x183 x184 Hx182 < mu105 i101 j102 Hx103)
def slices_partitionOrdered_uint32.k3 (Hx103 : Hp) (Iq104 : Int → Int → Hp → Prop) (K : Int → Bool → Hp → Prop) (a4 : Int) (datal2 : Nat) (datap1 : Option Addr) (i101 : Int) (j102 : Int) (mu105 : Int → Int → Hp → Nat) (i124 : Int) (Hx125 : Hp) : Prop :=
  ∃ (Iq128 : Int → Hp → Prop) (mu129 : Int → Hp → Nat), Iq128 j102 Hx125 ∧ ∀ (j126 : Int) (Hx127 : Hp), Iq128 j126 Hx127 → bc ((decide (i124 ≤ j126))) (IDX j126 datal2 fun k130 => NIL datap1 fun bq131 oq132 => ldI .u32 (rd Hx127 bq131 (oq132 + k130)) fun x133 => IDX a4 datal2 fun k134 => NIL datap1 fun bq135 oq136 => ldI .u32 (rd Hx127 bq135 (oq136 + k134)) fun x137 => cmp_Less_uint32.C x133 x137 Hx127 fun r138 Hx139 => bc ((!r138)) (CHK .i64 (j126 - (1 : Int)) fun x142 => Iq128 x142 Hx139 ∧ mu129 x142 Hx139 < mu129 j126 Hx127) (slices_partitionOrdered_uint32.k4 Hx103 Iq104 K a4 datal2 datap1 i101 i124 j102 mu105 j126 Hx139)) (slices_partitionOrdered_uint32.k4 Hx103 Iq104 K a4 datal2 datap1 i101 i124 j102 mu105 j126 Hx127)
def slices_partitionOrdered_uint32.k2 (K : Int → Bool → Hp → Prop) (a4 : Int) (datal2 : Nat) (datap1 : Option Addr) (i43 : Int) (j63 : Int) (Hx64 : Hp) : Prop :=
  bc ((decide (j63 < i43))) (IDX a4 datal2 fun k65 => NIL datap1 fun bq66 oq67 => ldI .u32 (rd Hx64 bq66 (oq67 + k65)) fun x68 => IDX j63 datal2 fun k69 => NIL datap1 fun bq70 oq71 => ldI .u32 (rd Hx64 bq70 (oq71 + k69)) fun x72 => IDX j63 datal2 fun k73 => NIL datap1 fun bq74 oq75 => ST Hx64 bq74 (oq75 + k73) (.int .u32 x68) fun Hx76 => IDX a4 datal2 fun k77 => NIL datap1 fun bq78 oq79 => ST Hx76 bq78 (oq79 + k77) (.int .u32 x72) fun Hx80 => K j63 true Hx80) (IDX j63 datal2 fun k83 => NIL datap1 fun bq84 oq85 => ldI .u32 (rd Hx64 bq84 (oq85 + k83)) fun x86 => IDX i43 datal2 fun k87 => NIL datap1 fun bq88 oq89 => ldI .u32 (rd Hx64 bq88 (oq89 + k87)) fun x90 => IDX i43 datal2 fun k91 => NIL datap1 fun bq92 oq93 => ST Hx64 bq92 (oq93 + k91) (.int .u32 x86) fun Hx94 => IDX j63 datal2 fun k95 => NIL datap1 fun bq96 oq97 => ST Hx94 bq96 (oq97 + k95) (.int .u32 x90) fun Hx98 => CHK .i64 (i43 + (1 : Int)) fun x99 => CHK .i64 (j63 - (1 : Int)) fun x100 => ∃ (Iq104 : Int → Int → Hp → Prop) (mu105 : Int → Int → Hp → Nat), Iq104 x99 x100 Hx98 ∧ ∀ (i101 : Int) (j102 : Int) (Hx103 : Hp), Iq104 i101 j102 Hx103 → ∃ (Iq108 : Int → Hp → Prop) (mu109 : Int → Hp → Nat), Iq108 i101 Hx103 ∧ ∀ (i106 : Int) (Hx107 : Hp), Iq108 i106 Hx107 → bc ((decide (i106 ≤ j102))) (IDX i106 datal2 fun k110 => NIL datap1 fun bq111 oq112 => ldI .u32 (rd Hx107 bq111 (oq112 + k110)) fun x113 => IDX a4 datal2 fun k114 => NIL datap1 fun bq115 oq116 => ldI .u32 (rd Hx107 bq115 (oq116 + k114)) fun x117 => cmp_Less_uint32.C x113 x117 Hx107 fun r118 Hx119 => bc (r118) (CHK .i64 (i106 + (1 : Int)) fun x122 => Iq108 x122 Hx119 ∧ mu109 x122 Hx119 < mu109 i106 Hx107) (slices_partitionOrdered_uint32.k3 Hx103 Iq104 K a4 datal2 datap1 i101 j102 mu105 i106 Hx119)) (slices_partitionOrdered_uint32.k3 Hx103 Iq104 K a4 datal2 datap1 i101 j102 mu105 i106 Hx107))
def slices_partitionOrdered_uint32.k1 (K : Int → Bool → Hp → Prop) (a4 : Int) (datal2 : Nat) (datap1 : Option Addr) (x24 : Int) (i43 : Int) (Hx44 : Hp) : Prop :=
  ∃ (Iq47 : Int → Hp → Prop) (mu48 : Int → Hp → Nat), Iq47 x24 Hx44 ∧ ∀ (j45 : Int) (Hx46 : Hp), Iq47 j45 Hx46 → bc ((decide (i43 ≤ j45))) (IDX j45 datal2 fun k49 => NIL datap1 fun bq50 oq51 => ldI .u32 (rd Hx46 bq50 (oq51 + k49)) fun x52 => IDX a4 datal2 fun k53 => NIL datap1 fun bq54 oq55 => ldI .u32 (rd Hx46 bq54 (oq55 + k53)) fun x56 => cmp_Less_uint32.C x52 x56 Hx46 fun r57 Hx58 => bc ((!r57)) (CHK .i64 (j45 - (1 : Int)) fun x61 => Iq47 x61 Hx58 ∧ mu48 x61 Hx58 < mu48 j45 Hx46) (slices_partitionOrdered_uint32.k2 K a4 datal2 datap1 i43 j45 Hx58)) (slices_partitionOrdered_uint32.k2 K a4 datal2 datap1 i43 j45 Hx46)
def slices_partitionOrdered_uint32.F (datap1 : Option Addr) (datal2 : Nat) (_datac3 : Nat) (a4 : Int) (bq5 : Int) (pivot6 : Int) (H : Hp) (K : Int → Bool → Hp → Prop) : Prop :=
  IDX pivot6 datal2 fun k7 => NIL datap1 fun bq8 oq9 => ldI .u32 (rd H bq8 (oq9 + k7)) fun x10 => IDX a4 datal2 fun k11 => NIL datap1 fun bq12 oq13 => ldI .u32 (rd H bq12 (oq13 + k11)) fun x14 => IDX a4 datal2 fun k15 => NIL datap1 fun bq16 oq17 => ST H bq16 (oq17 + k15) (.int .u32 x10) fun Hx18 => IDX pivot6 datal2 fun k19 => NIL datap1 fun bq20 oq21 => ST Hx18 bq20 (oq21 + k19) (.int .u32 x14) fun Hx22 => CHK .i64 (a4 + (1 : Int)) fun x23 => CHK .i64 (bq5 - (1 : Int)) fun x24 => ∃ (Iq27 : Int → Hp → Prop) (mu28 : Int → Hp → Nat), Iq27 x23 Hx22 ∧ ∀ (i25 : Int) (Hx26 : Hp), Iq27 i25 Hx26 → bc ((decide (i25 ≤ x24))) (IDX i25 datal2 fun k29 => NIL datap1 fun bq30 oq31 => ldI .u32 (rd Hx26 bq30 (oq31 + k29)) fun x32 => IDX a4 datal2 fun k33 => NIL datap1 fun bq34 oq35 => ldI .u32 (rd Hx26 bq34 (oq35 + k33)) fun x36 => cmp_Less_uint32.C x32 x36 Hx26 fun r37 Hx38 => bc (r37) (CHK .i64 (i25 + (1 : Int)) fun x41 => Iq27 x41 Hx38 ∧ mu28 x41 Hx38 < mu28 i25 Hx26) (slices_partitionOrdered_uint32.k1 K a4 datal2 datap1 x24 i25 Hx38)) (slices_partitionOrdered_uint32.k1 K a4 datal2 datap1 x24 i25 Hx26)
theorem slices_partitionOrdered_uint32.vc (datap1 : Option Addr) (datal2 : Nat) (datac3 : Nat) (a4 : Int) (bq5 : Int) (pivot6 : Int) (H : Hp) (K : Int → Bool → Hp → Prop) : vcFun prog tab slices_partitionOrdered_uint32.ann none Try.f93 (List.map AV.v [.slice datap1 datal2 datac3, .int .i64 a4, .int .i64 bq5, .int .i64 pivot6]) H (fun v H2 _ => tupV v fun vs => d2 vs fun wv0 wv1 => liftI .i64 wv0 fun r195 => liftB wv1 fun r196 => K r195 r196 H2) = slices_partitionOrdered_uint32.F datap1 datal2 datac3 a4 bq5 pivot6 H K := by kernel_rfl
theorem slices_partitionOrdered_uint32.of (datap1 : Option Addr) (datal2 : Nat) (datac3 : Nat) (a4 : Int) (bq5 : Int) (pivot6 : Int) {H : Hp} {K : Int → Bool → Hp → Prop} (h : slices_partitionOrdered_uint32.F datap1 datal2 datac3 a4 bq5 pivot6 H K) : slices_partitionOrdered_uint32.C datap1 datal2 datac3 a4 bq5 pivot6 H K := CallH_of_vc mix tabOk Try.func93 (by kernel_rfl) ((slices_partitionOrdered_uint32.vc datap1 datal2 datac3 a4 bq5 pivot6 H K).mpr h)
-- math/bits.Len64 (95)
def math_bits_Len64.ann : Ann := { loops := [], pars := [] }
def math_bits_Len64.k3 (K : Int → Hp → Prop) (x10 : Int) (n11 : Int) (Hx12 : Hp) : Prop :=
  IDX (IntKind.wrap .u8 x10) (bs [0, 1, 2, 2, 3, 3, 3, 3, 4, 4, 4, 4, 4, 4, 4, 4, 5, 5, 5, 5, 5, 5, 5, 5, 5, 5, 5, 5, 5, 5, 5, 5, 6, 6, 6, 6, 6, 6, 6, 6, 6, 6, 6, 6, 6, 6, 6, 6, 6, 6, 6, 6, 6, 6, 6, 6, 6, 6, 6, 6, 6, 6, 6, 6, 7, 7, 7, 7, 7, 7, 7, 7, 7, 7, 7, 7, 7, 7, 7, 7, 7, 7, 7, 7, 7, 7, 7, 7, 7, 7, 7, 7, 7, 7, 7, 7, 7, 7, 7, 7, 7, 7, 7, 7, 7, 7, 7, 7, 7, 7, 7, 7, 7, 7, 7, 7, 7, 7, 7, 7, 7, 7, 7, 7, 7, 7, 7, 7, 8, 8, 8, 8, 8, 8, 8, 8, 8, 8, 8, 8, 8, 8, 8, 8, 8, 8, 8, 8, 8, 8, 8, 8, 8, 8, 8, 8, 8, 8, 8, 8, 8, 8, 8, 8, 8, 8, 8, 8, 8, 8, 8, 8, 8, 8, 8, 8, 8, 8, 8, 8, 8, 8, 8, 8, 8, 8, 8, 8, 8, 8, 8, 8, 8, 8, 8, 8, 8, 8, 8, 8, 8, 8, 8, 8, 8, 8, 8, 8, 8, 8, 8, 8, 8, 8, 8, 8, 8, 8, 8, 8, 8, 8, 8, 8, 8, 8, 8, 8, 8, 8, 8, 8, 8, 8, 8, 8, 8, 8, 8, 8, 8, 8, 8, 8, 8, 8, 8, 8, 8, 8, 8, 8, 8, 8, 8, 8]).size fun k13 => CHK .i64 (((bs [0, 1, 2, 2, 3, 3, 3, 3, 4, 4, 4, 4, 4, 4, 4, 4, 5, 5, 5, 5, 5, 5, 5, 5, 5, 5, 5, 5, 5, 5, 5, 5, 6, 6, 6, 6, 6, 6, 6, 6, 6, 6, 6, 6, 6, 6, 6, 6, 6, 6, 6, 6, 6, 6, 6, 6, 6, 6, 6, 6, 6, 6, 6, 6, 7, 7, 7, 7, 7, 7, 7, 7, 7, 7, 7, 7, 7, 7, 7, 7, 7, 7, 7, 7, 7, 7, 7, 7, 7, 7, 7, 7, 7, 7, 7, 7, 7, 7, 7, 7, 7, 7, 7, 7, 7, 7, 7, 7, 7, 7, 7, 7, 7, 7, 7, 7, 7, 7, 7, 7, 7, 7, 7, 7, 7, 7, 7, 7, 8, 8, 8, 8, 8, 8, 8, 8, 8, 8, 8, 8, 8, 8, 8, 8, 8, 8, 8, 8, 8, 8, 8, 8, 8, 8, 8, 8, 8, 8, 8, 8, 8, 8, 8, 8, 8, 8, 8, 8, 8, 8, 8, 8, 8, 8, 8, 8, 8, 8, 8, 8, 8, 8, 8, 8, 8, 8, 8, 8, 8, 8, 8, 8, 8, 8, 8, 8, 8, 8, 8, 8, 8, 8, 8, 8, 8, 8, 8, 8, 8, 8, 8, 8, 8, 8, 8, 8, 8, 8, 8, 8, 8, 8, 8, 8, 8, 8, 8, 8, 8, 8, 8, 8, 8, 8, 8, 8, 8, 8, 8, 8, 8, 8, 8, 8, 8, 8, 8, 8, 8, 8, 8, 8, 8, 8, 8, 8]).data.toList.getD k13 0).toNat : Int) fun x14 => CHK .i64 (n11 + x14) fun x15 => K x15 Hx12
def math_bits_Len64.k2 (K : Int → Hp → Prop) (x6 : Int) (n7 : Int) (Hx8 : Hp) : Prop :=
  bc ((decide ((256 : Int) ≤ x6))) (0 ≤ (8 : Int) ∧ (CHK .i64 (n7 + (8 : Int)) fun x9 => math_bits_Len64.k3 K (ishr .u64 x6 (8 : Int)) x9 Hx8)) (math_bits_Len64.k3 K x6 n7 Hx8)
def math_bits_Len64.k1 (K : Int → Hp → Prop) (x2 : Int) (n3 : Int) (Hx4 : Hp) : Prop :=
  bc ((decide ((65536 : Int) ≤ x2))) (0 ≤ (16 : Int) ∧ (CHK .i64 (n3 + (16 : Int)) fun x5 => math_bits_Len64.k2 K (ishr .u64 x2 (16 : Int)) x5 Hx4)) (math_bits_Len64.k2 K x2 n3 Hx4)
def math_bits_Len64.F (x1 : Int) (H : Hp) (K : Int → Hp → Prop) : Prop :=
  bc ((decide ((4294967296 : Int) ≤ x1))) (0 ≤ (32 : Int) ∧ (math_bits_Len64.k1 K (ishr .u64 x1 (32 : Int)) (32 : Int) H)) (math_bits_Len64.k1 K x1 (0 : Int) H)
theorem math_bits_Len64.vc (x1 : Int) (H : Hp) (K : Int → Hp → Prop) : vcFun prog tab math_bits_Len64.ann none Try.f95 (List.map AV.v [.int .u64 x1]) H (fun v H2 _ => liftI .i64 v fun r29 => K r29 H2) = math_bits_Len64.F x1 H K := by kernel_rfl
theorem math_bits_Len64.of (x1 : Int) {H : Hp} {K : Int → Hp → Prop} (h : math_bits_Len64.F x1 H K) : math_bits_Len64.C x1 H K := CallH_of_vc mix tabOk Try.func95 (by kernel_rfl) ((math_bits_Len64.vc x1 H K).mpr h)
-- slices.siftDownOrdered[uint32] (96)
def slices_siftDownOrdered_uint32.ann : Ann := { loops := [(0, [(8, .one (.int .i64))])], pars := [] }
def slices_siftDownOrdered_uint32.k1 (Hx8 : Hp) (Iq9 : Int → Hp → Prop) (K : Hp → Prop) (datal2 : Nat) (datap1 : Option Addr) (first6 : Int) (mu10 : Int → Hp → Nat) (root7 : Int) (child30 : Int) (Hx31 : Hp) : Prop :=
  CHK .i64 (first6 + root7) fun x32 => IDX x32 datal2 fun k33 => NIL datap1 fun bq34 oq35 => ldI .u32 (rd Hx31 bq34 (oq35 + k33)) fun x36 => CHK .i64 (first6 + child30) fun x37 => IDX x37 datal2 fun k38 => NIL datap1 fun bq39 oq40 => ldI .u32 (rd Hx31 bq39 (oq40 + k38)) fun x41 => cmp_Less_uint32.C x36 x41 Hx31 fun r42 Hx43 => bc ((!r42)) (K Hx43) (CHK .i64 (first6 + root7) fun x46 => CHK .i64 (first6 + child30) fun x47 => CHK .i64 (first6 + child30) fun x48 => IDX x48 datal2 fun k49 => NIL datap1 fun bq50 oq51 => ldI .u32 (rd Hx43 bq50 (oq51 + k49)) fun x52 => CHK .i64 (first6 + root7) fun x53 => IDX x53 datal2 fun k54 => NIL datap1 fun bq55 oq56 => ldI .u32 (rd Hx43 bq55 (oq56 + k54)) fun x57 => IDX x46 datal2 fun k58 => NIL datap1 fun bq59 oq60 => ST Hx43 bq59 (oq60 + k58) (.int .u32 x52) fun Hx61 => IDX x47 datal2 fun k62 => NIL datap1 fun bq63 oq64 => ST Hx61 bq63 (oq64 + k62) (.int .u32 x57) fun Hx65 => Iq9 child30 Hx65 ∧ mu10 child30 Hx65 < mu10 root7 Hx8)
def slices_siftDownOrdered_uint32.F (datap1 : Option Addr) (datal2 : Nat) (_datac3 : Nat) (lo4 : Int) (hi5 : Int) (first6 : Int) (H : Hp) (K : Hp → Prop) : Prop :=
  ∃ (Iq9 : Int → Hp → Prop) (mu10 : Int → Hp → Nat), Iq9 lo4 H ∧ ∀ (root7 : Int) (Hx8 : Hp), Iq9 root7 Hx8 → CHK .i64 ((2 : Int) * root7) fun x11 => CHK .i64 (x11 + (1 : Int)) fun x12 => bc ((decide (hi5 ≤ x12))) (K Hx8) (CHK .i64 (x12 + (1 : Int)) fun x13 => bc ((decide (x13 < hi5))) (CHK .i64 (first6 + x12) fun x14 => IDX x14 datal2 fun k15 => NIL datap1 fun bq16 oq17 => ldI .u32 (rd Hx8 bq16 (oq17 + k15)) fun x18 => CHK .i64 (first6 + x12) fun x19 => CHK .i64 (x19 + (1 : Int)) fun x20 => IDX x20 datal2 fun k21 => NIL datap1 fun bq22 oq23 => ldI .u32 (rd Hx8 bq22 (oq23 + k21)) fun x24 => cmp_Less_uint32.C x18 x24 Hx8 fun r25 Hx26 => bc (r25) (CHK .i64 (x12 + (1 : Int)) fun x29 => slices_siftDownOrdered_uint32.k1 Hx8 Iq9 K datal2 datap1 first6 mu10 root7 x29 Hx26) (slices_siftDownOrdered_uint32.k1 Hx8 Iq9 K datal2 datap1 first6 mu10 root7 x12 Hx26)) (slices_siftDownOrdered_uint32.k1 Hx8 Iq9 K datal2 datap1 first6 mu10 root7 x12 Hx8))
theorem slices_siftDownOrdered_uint32.vc (datap1 : Option Addr) (datal2 : Nat) (datac3 : Nat) (lo4 : Int) (hi5 : Int) (first6 : Int) (H : Hp) (K : Hp → Prop) : vcFun prog tab slices_siftDownOrdered_uint32.ann none Try.f96 (List.map AV.v [.slice datap1 datal2 datac3, .int .i64 lo4, .int .i64 hi5, .int .i64 first6]) H (fun v H2 _ => tupV v fun vs => d0 vs (K H2)) = slices_siftDownOrdered_uint32.F datap1 datal2 datac3 lo4 hi5 first6 H K := by kernel_rfl
theorem slices_siftDownOrdered_uint32.of (datap1 : Option Addr) (datal2 : Nat) (datac3 : Nat) (lo4 : Int) (hi5 : Int) (first6 : Int) {H : Hp} {K : Hp → Prop} (h : slices_siftDownOrdered_uint32.F datap1 datal2 datac3 lo4 hi5 first6 H K) : slices_siftDownOrdered_uint32.C datap1 datal2 datac3 lo4 hi5 first6 H K := CallH_of_vc mix tabOk Try.func96 (by kernel_rfl) ((slices_siftDownOrdered_uint32.vc datap1 datal2 datac3 lo4 hi5 first6 H K).mpr h)
-- slices.nextPowerOfTwo (97)
def slices_nextPowerOfTwo.ann : Ann := { loops := [], pars := [] }
def slices_nextPowerOfTwo.F (length1 : Int) (H : Hp) (K : Int → Hp → Prop) : Prop :=
  math_bits_Len.C (IntKind.wrap .u64 length1) H fun r2 Hx3 => 0 ≤ r2 ∧ (K (ishl .u64 (1 : Int) r2) Hx3)
theorem slices_nextPowerOfTwo.vc (length1 : Int) (H : Hp) (K : Int → Hp → Prop) : vcFun prog tab slices_nextPowerOfTwo.ann none Try.f97 (List.map AV.v [.int .i64 length1]) H (fun v H2 _ => liftI .u64 v fun r6 => K r6 H2) = slices_nextPowerOfTwo.F length1 H K := by kernel_rfl
theorem slices_nextPowerOfTwo.of (length1 : Int) {H : Hp} {K : Int → Hp → Prop} (h : slices_nextPowerOfTwo.F length1 H K) : slices_nextPowerOfTwo.C length1 H K := CallH_of_vc mix tabOk Try.func97 (by kernel_rfl) ((slices_nextPowerOfTwo.vc length1 H K).mpr h)
-- (*slices.xorshift).Next (98)
def slices_xorshift_Next.ann : Ann := { loops := [], pars := [] }
def slices_xorshift_Next.F (r1 : Option Addr) (H : Hp) (K : Int → Hp → Prop) : Prop :=
  NIL r1 fun bq2 oq3 => ldI .u64 (rd H bq2 oq3) fun x4 => NIL r1 fun bq5 oq6 => ldI .u64 (rd H bq5 oq6) fun x7 => 0 ≤ (13 : Int) ∧ (NIL r1 fun bq8 oq9 => ST H bq8 oq9 (.int .u64 (ixor .u64 x4 (ishl .u64 x7 (13 : Int)))) fun Hx10 => NIL r1 fun bq11 oq12 => ldI .u64 (rd Hx10 bq11 oq12) fun x13 => NIL r1 fun bq14 oq15 => ldI .u64 (rd Hx10 bq14 oq15) fun x16 => 0 ≤ (7 : Int) ∧ (NIL r1 fun bq17 oq18 => ST Hx10 bq17 oq18 (.int .u64 (ixor .u64 x13 (ishr .u64 x16 (7 : Int)))) fun Hx19 => NIL r1 fun bq20 oq21 => ldI .u64 (rd Hx19 bq20 oq21) fun x22 => NIL r1 fun bq23 oq24 => ldI .u64 (rd Hx19 bq23 oq24) fun x25 => 0 ≤ (17 : Int) ∧ (NIL r1 fun bq26 oq27 => ST Hx19 bq26 oq27 (.int .u64 (ixor .u64 x22 (ishl .u64 x25 (17 : Int)))) fun Hx28 => NIL r1 fun bq29 oq30 => ldI .u64 (rd Hx28 bq29 oq30) fun x31 => K x31 Hx28)))
theorem slices_xorshift_Next.vc (r1 : Option Addr) (H : Hp) (K : Int → Hp → Prop) : vcFun prog tab slices_xorshift_Next.ann none Try.f98 (List.map AV.v [.pointer r1]) H (fun v H2 _ => liftI .u64 v fun r33 => K r33 H2) = slices_xorshift_Next.F r1 H K := by kernel_rfl
theorem slices_xorshift_Next.of (r1 : Option Addr) {H : Hp} {K : Int → Hp → Prop} (h : slices_xorshift_Next.F r1 H K) : slices_xorshift_Next.C r1 H K := CallH_of_vc mix tabOk Try.func98 (by kernel_rfl) ((slices_xorshift_Next.vc r1 H K).mpr h)
-- slices.medianAdjacentOrdered[uint32] (99)
def slices_medianAdjacentOrdered_uint32.ann : Ann := { loops := [], pars := [] }
def slices_medianAdjacentOrdered_uint32.F (datap1 : Option Addr) (datal2 : Nat) (datac3 : Nat) (a4 : Int) (swaps5 : Option Addr) (H : Hp) (K : Int → Hp → Prop) : Prop :=
  CHK .i64 (a4 - (1 : Int)) fun x6 => CHK .i64 (a4 + (1 : Int)) fun x7 => slices_medianOrdered_uint32.C datap1 datal2 datac3 x6 a4 x7 swaps5 H fun r8 Hx9 => K r8 Hx9
theorem slices_medianAdjacentOrdered_uint32.vc (datap1 : Option Addr) (datal2 : Nat) (datac3 : Nat) (a4 : Int) (swaps5 : Option Addr) (H : Hp) (K : Int → Hp → Prop) : vcFun prog tab slices_medianAdjacentOrdered_uint32.ann none Try.f99 (List.map AV.v [.slice datap1 datal2 datac3, .int .i64 a4, .pointer swaps5]) H (fun v H2 _ => liftI .i64 v fun r18 => K r18 H2) = slices_medianAdjacentOrdered_uint32.F datap1 datal2 datac3 a4 swaps5 H K := by kernel_rfl
theorem slices_medianAdjacentOrdered_uint32.of (datap1 : Option Addr) (datal2 : Nat) (datac3 : Nat) (a4 : Int) (swaps5 : Option Addr) {H : Hp} {K : Int → Hp → Prop} (h : slices_medianAdjacentOrdered_uint32.F datap1 datal2 datac3 a4 swaps5 H K) : slices_medianAdjacentOrdered_uint32.C datap1 datal2 datac3 a4 swaps5 H K := CallH_of_vc mix tabOk Try.func99 (by kernel_rfl) ((slices_medianAdjacentOrdered_uint32.vc datap1 datal2 datac3 a4 swaps5 H K).mpr h)
-- slices.medianOrdered[uint32] (100)
def slices_medianOrdered_uint32.ann : Ann := { loops := [], pars := [] }
def slices_medianOrdered_uint32.F (datap1 : Option Addr) (datal2 : Nat) (datac3 : Nat) (a4 : Int) (bq5 : Int) (c6 : Int) (swaps7 : Option Addr) (H : Hp) (K : Int → Hp → Prop) : Prop :=
  slices_order2Ordered_uint32.C datap1 datal2 datac3 a4 bq5 swaps7 H fun r8 r9 Hx10 => slices_order2Ordered_uint32.C datap1 datal2 datac3 r9 c6 swaps7 Hx10 fun r17 _ Hx19 => slices_order2Ordered_uint32.C datap1 datal2 datac3 r8 r17 swaps7 Hx19 fun _ r27 Hx28 => K r27 Hx28
theorem slices_medianOrdered_uint32.vc (datap1 : Option Addr) (datal2 : Nat) (datac3 : Nat) (a4 : Int) (bq5 : Int) (c6 : Int) (swaps7 : Option Addr) (H : Hp) (K : Int → Hp → Prop) : vcFun prog tab slices_medianOrdered_uint32.ann none Try.f100 (List.map AV.v [.slice datap1 datal2 datac3, .int .i64 a4, .int .i64 bq5, .int .i64 c6, .pointer swaps7]) H (fun v H2 _ => liftI .i64 v fun r36 => K r36 H2) = slices_medianOrdered_uint32.F datap1 datal2 datac3 a4 bq5 c6 swaps7 H K := by kernel_rfl
theorem slices_medianOrdered_uint32.of (datap1 : Option Addr) (datal2 : Nat) (datac3 : Nat) (a4 : Int) (bq5 : Int) (c6 : Int) (swaps7 : Option Addr) {H : Hp} {K : Int → Hp → Prop} (h : slices_medianOrdered_uint32.F datap1 datal2 datac3 a4 bq5 c6 swaps7 H K) : slices_medianOrdered_uint32.C datap1 datal2 datac3 a4 bq5 c6 swaps7 H K := CallH_of_vc mix tabOk Try.func100 (by kernel_rfl) ((slices_medianOrdered_uint32.vc datap1 datal2 datac3 a4 bq5 c6 swaps7 H K).mpr h)
-- slices.order2Ordered[uint32] (101)
def slices_order2Ordered_uint32.ann : Ann := { loops := [], pars := [] }
def slices_order2Ordered_uint32.F (datap1 : Option Addr) (datal2 : Nat) (_datac3 : Nat) (a4 : Int) (bq5 : Int) (swaps6 : Option Addr) (H : Hp) (K : Int → Int → Hp → Prop) : Prop :=
  IDX bq5 datal2 fun k7 => NIL datap1 fun bq8 oq9 => ldI .u32 (rd H bq8 (oq9 + k7)) fun x10 => IDX a4 datal2 fun k11 => NIL datap1 fun bq12 oq13 => ldI .u32 (rd H bq12 (oq13 + k11)) fun x14 => cmp_Less_uint32.C x10 x14 H fun r15 Hx16 => bc (r15) (NIL swaps6 fun bq19 oq20 => ldI .i64 (rd Hx16 bq19 oq20) fun x21 => CHK .i64 (x21 + (1 : Int)) fun x22 => NIL swaps6 fun bq23 oq24 => ST Hx16 bq23 oq24 (.int .i64 x22) fun Hx25 => K bq5 a4 Hx25) (K a4 bq5 Hx16)
theorem slices_order2Ordered_uint32.vc (datap1 : Option Addr) (datal2 : Nat) (datac3 : Nat) (a4 : Int) (bq5 : Int) (swaps6 : Option Addr) (H : Hp) (K : Int → Int → Hp → Prop) : vcFun prog tab slices_order2Ordered_uint32.ann none Try.f101 (List.map AV.v [.slice datap1 datal2 datac3, .int .i64 a4, .int .i64 bq5, .pointer swaps6]) H (fun v H2 _ => tupV v fun vs => d2 vs fun wv0 wv1 => liftI .i64 wv0 fun r30 => liftI .i64 wv1 fun r31 => K r30 r31 H2) = slices_order2Ordered_uint32.F datap1 datal2 datac3 a4 bq5 swaps6 H K := by kernel_rfl
theorem slices_order2Ordered_uint32.of (datap1 : Option Addr) (datal2 : Nat) (datac3 : Nat) (a4 : Int) (bq5 : Int) (swaps6 : Option Addr) {H : Hp} {K : Int → Int → Hp → Prop} (h : slices_order2Ordered_uint32.F datap1 datal2 datac3 a4 bq5 swaps6 H K) : slices_order2Ordered_uint32.C datap1 datal2 datac3 a4 bq5 swaps6 H K := CallH_of_vc mix tabOk Try.func101 (by kernel_rfl) ((slices_order2Ordered_uint32.vc datap1 datal2 datac3 a4 bq5 swaps6 H K).mpr h)
end Go.Proofs.Ytlpdenhcaipppaa
namespace Go.Proofs.Ytlpdenhcaipppaa
open Go.V
/-! ### Sorts: how many bits a number has -/
def lenTab : List UInt8 := [0, 1, 2, 2, 3, 3, 3, 3, 4, 4, 4, 4, 4, 4, 4, 4, 5, 5, 5, 5, 5, 5, 5, 5, 5, 5, 5, 5, 5, 5, 5, 5, 6, 6, 6, 6, 6, 6, 6, 6, 6, 6, 6, 6, 6, 6, 6, 6, 6, 6, 6, 6, 6, 6, 6, 6, 6, 6, 6, 6, 6, 6, 6, 6, 7, 7, 7, 7, 7, 7, 7, 7, 7, 7, 7, 7, 7, 7, 7, 7, 7, 7, 7, 7, 7, 7, 7, 7, 7, 7, 7, 7, 7, 7, 7, 7, 7, 7, 7, 7, 7, 7, 7, 7, 7, 7, 7, 7, 7, 7, 7, 7, 7, 7, 7, 7, 7, 7, 7, 7, 7, 7, 7, 7, 7, 7, 7, 7, 8, 8, 8, 8, 8, 8, 8, 8, 8, 8, 8, 8, 8, 8, 8, 8, 8, 8, 8, 8, 8, 8, 8, 8, 8, 8, 8, 8, 8, 8, 8, 8, 8, 8, 8, 8, 8, 8, 8, 8, 8, 8, 8, 8, 8, 8, 8, 8, 8, 8, 8, 8, 8, 8, 8, 8, 8, 8, 8, 8, 8, 8, 8, 8, 8, 8, 8, 8, 8, 8, 8, 8, 8, 8, 8, 8, 8, 8, 8, 8, 8, 8, 8, 8, 8, 8, 8, 8, 8, 8, 8, 8, 8, 8, 8, 8, 8, 8, 8, 8, 8, 8, 8, 8, 8, 8, 8, 8, 8, 8, 8, 8, 8, 8, 8, 8, 8, 8, 8, 8, 8, 8, 8, 8, 8, 8, 8, 8]
theorem lenTab_all : (List.range 256).all (fun k => decide ((lenTab.getD k 0).toNat = Sort.bitsLen k)) = true := by kernel_rfl
theorem lenTab_at {k : Nat} (h : k < 256) : (lenTab.getD k 0).toNat = Sort.bitsLen k := of_decide_eq_true (List.all_eq_true.1 lenTab_all k (List.mem_range.2 h))
theorem bitsLen_shift {n s : Nat} (h : 2 ^ s ≤ n) : Sort.bitsLen n = Sort.bitsLen (n / 2 ^ s) + s := by
  have hp : 0 < 2 ^ s := Nat.pow_pos (by decide)
  have h1 := Sort.lt_two_pow_bitsLen n
  have h2 := Sort.lt_two_pow_bitsLen (n / 2 ^ s)
  have hs : s ≤ Sort.bitsLen n := by
    rcases Nat.lt_or_ge (Sort.bitsLen n) s with h3 | h3
    · have := (Sort.bitsLen_le_iff n (s - 1)).1 (by omega)
      have h4 : 2 ^ (s - 1) ≤ 2 ^ s := Nat.pow_le_pow_right (by decide) (by omega)
      omega
    · exact h3
  refine Nat.le_antisymm ((Sort.bitsLen_le_iff _ _).2 ?_) ?_
  · rw [Nat.pow_add]
    exact (Nat.div_lt_iff_lt_mul hp).1 h2
  · have : Sort.bitsLen (n / 2 ^ s) ≤ Sort.bitsLen n - s := (Sort.bitsLen_le_iff _ _).2 ((Nat.div_lt_iff_lt_mul hp).2 (by rw [← Nat.pow_add, Nat.sub_add_cancel hs]; exact h1))
    omega
theorem bitsLen_le64 {n : Nat} (h : n < 4294967296) : Sort.bitsLen n ≤ 32 := (Sort.bitsLen_le_iff n 32).2 (by simpa using h)
theorem math_bits_Len64.k3c {n m : Nat} {K : Int → Hp → Prop} {H : Hp} (hn : n < 256) (hm : m ≤ 1000) (hK : K ((m + Sort.bitsLen n : Nat) : Int) H) : math_bits_Len64.k3 K (n : Nat) (m : Nat) H := by
  unfold math_bits_Len64.k3
  have hb := bitsLen_le64 (n := n) (by omega)
  refine idxN n ?_ (show n < (bs lenTab).size from Nat.lt_of_lt_of_eq hn (by kernel_rfl)) ?_
  · rw [show ∀ x : Int, IntKind.wrap .u8 x = x % 256 from fun x => by simp [IntKind.wrap, IntKind.bits, IntKind.signed]]; omega
  show CHK .i64 (((lenTab.getD n 0).toNat : Nat) : Int) _
  rw [lenTab_at hn]
  exact chk (by omega) (chk (by omega) (by rw [← Int.natCast_add]; exact hK))
theorem math_bits_Len64.c {n : Nat} {K : Int → Hp → Prop} {H : Hp} (hn : n < 4294967296) (hK : K ((Sort.bitsLen n : Nat) : Int) H) : math_bits_Len64.C (n : Nat) H K := by
  apply math_bits_Len64.of
  have k2 : ∀ (x m : Nat), x < 65536 → m ≤ 100 → Sort.bitsLen n = m + Sort.bitsLen x → math_bits_Len64.k2 K (x : Nat) (m : Nat) H := by
    intro x m hx hm e
    unfold math_bits_Len64.k2
    refine bcd (fun h => ⟨by decide, chk (by omega) ?_⟩) fun h => math_bits_Len64.k3c (by omega) (by omega) (by rw [← e]; exact hK)
    have := ishr_N x 8 (by decide)
    rw [show ((8 : Nat) : Int) = 8 from rfl] at this
    rw [this, show ((m : Nat) : Int) + 8 = ((m + 8 : Nat) : Int) by omega]
    refine math_bits_Len64.k3c (by omega) (by omega) ?_
    have h8 := bitsLen_shift (n := x) (s := 8) (by omega)
    rw [show m + 8 + Sort.bitsLen (x / 2 ^ 8) = Sort.bitsLen n by omega]; exact hK
  refine bcd (fun h => absurd h (by omega)) fun _ => ?_
  unfold math_bits_Len64.k1
  refine bcd (fun h => ⟨by decide, chk (by omega) ?_⟩) fun h => k2 n 0 (by omega) (by omega) (by omega)
  have := ishr_N n 16 (by decide)
  rw [show ((16 : Nat) : Int) = 16 from rfl] at this
  rw [this]
  have h16 := bitsLen_shift (n := n) (s := 16) (by omega)
  exact k2 (n / 2 ^ 16) 16 (by omega) (by omega) (by omega)
theorem math_bits_Len.c {n : Nat} {K : Int → Hp → Prop} {H : Hp} (hn : n < 4294967296) (hK : K ((Sort.bitsLen n : Nat) : Int) H) : math_bits_Len.C (n : Nat) H K := by
  apply math_bits_Len.of
  exact math_bits_Len64.c hn hK
theorem slices_nextPowerOfTwo.c {n : Nat} {K : Int → Hp → Prop} {H : Hp} (hn : n < 4294967296) (hK : K ((2 ^ Sort.bitsLen n : Nat) : Int) H) : slices_nextPowerOfTwo.C (n : Nat) H K := by
  apply slices_nextPowerOfTwo.of
  unfold slices_nextPowerOfTwo.F
  rw [wrapU n (by omega)]
  refine math_bits_Len.c hn ⟨by omega, ?_⟩
  rw [ishl_1s _ (by have := bitsLen_le64 hn; omega)]; exact hK
theorem slices_xorshift_Next.c {q : Nat} {n : Int} {K : Int → Hp → Prop} {H : Hp} (hq : rd H q 0 = some (.int .u64 n)) (hK : ∀ m H', rd H' q 0 = some (.int .u64 m) → Mod [q] H H' → K m H') : slices_xorshift_Next.C (some ⟨q, 0, none⟩) H K := by
  apply slices_xorshift_Next.of
  refine nil (ldI_i hq (nil (ldI_i hq ⟨by decide, nil (st hq ?_)⟩)))
  have r1 := rd_wr_self (v := .int .u64 (ixor .u64 n (ishl .u64 n 13))) hq
  refine nil (ldI_i r1 (nil (ldI_i r1 ⟨by decide, nil (st r1 ?_)⟩)))
  have r2 := rd_wr_self (v := .int .u64 (ixor .u64 (ixor .u64 n (ishl .u64 n 13)) (ishr .u64 (ixor .u64 n (ishl .u64 n 13)) 7))) r1
  refine nil (ldI_i r2 (nil (ldI_i r2 ⟨by decide, nil (st r2 ?_)⟩)))
  exact nil (ldI_i (rd_wr_self r2) (hK _ _ (rd_wr_self r2) (((Mod.refl.wr (.inl (by simp))).wr (.inl (by simp))).wr (.inl (by simp)))))
end Go.Proofs.Ytlpdenhcaipppaa
namespace Go.Proofs.Ytlpdenhcaipppaa
open Go.V
/-! ### Sorts: numbers -/
abbrev fU (x : Int) : Value := .int .u32 x
theorem cmp_Less_uint32.c {x y : Int} {H : Hp} {K : Bool → Hp → Prop} (hK : K (Sort.ltInt x y) H) : cmp_Less_uint32.C x y H K := by
  apply cmp_Less_uint32.of
  refine cmp_isNaN_uint32.of x ?_
  exact bcd (fun h => absurd rfl h) fun _ => hK
theorem rdU {H : Hp} {p : Option Addr} {l : Nat} {d : Array Int} (h : A1 fU H p l d) (k : Nat) {e : Int} (he : e = (k : Int)) (hk : k < d.size) {F : Int → Prop} (hF : F d[k]!) : IDX e l fun k => NIL p fun b o => ldI .u32 (rd H b (o + k)) F := A1.I (g := fun x => x) h (fun _ => rfl) k he hk hF
theorem swU {H : Hp} {p : Option Addr} {l : Nat} {d : Array Int} (h : A1 fU H p l d) {i j : Nat} {ei ej : Int} (hi : i < d.size) (hj : j < d.size) (hei : ei = (i : Int)) (hej : ej = (j : Int)) {F : Hp → Prop}
    (hF : ∀ H', A1 fU H' p l (Sort.swp d i j) → Mod (blkL p) H H' → F H') : IDX ei l fun k => NIL p fun b o => ST H b (o + k) (.int .u32 d[j]!) fun H1 => IDX ej l fun k => NIL p fun b o => ST H1 b (o + k) (.int .u32 d[i]!) F := A1.sw h (fun _ => rfl) hi hj hei hej hF
section
variable {H : Hp} {p : Option Addr} {l cc : Nat} {d : Array Int}
theorem slices_insertionSortOrdered_uint32.c {a b : Nat} {K : Hp → Prop} (h : A1 fU H p l d) (hab : a ≤ b) (hb : b ≤ d.size) (hl : l ≤ 1000000000)
    (hK : ∀ H' d', A1 fU H' p l d' → Mod (blkL p) H H' → Sort.PermIn a b d d' → Sort.SortedIn Sort.ltInt a b d' → K H') : slices_insertionSortOrdered_uint32.C p l cc (a : Nat) (b : Nat) H K := by
  apply slices_insertionSortOrdered_uint32.of
  have hl0 := h.1
  obtain ⟨hp1, hp2⟩ := Sort.insertionSort_holds (lt := Sort.ltInt) Sort.swo_ltInt d a b hab hb
  refine chk (by omega) ?_
  refine ⟨fun i Hx => ∃ (i' : Nat) (d1 : Array Int), i = (i' : Nat) ∧ a + 1 ≤ i' ∧ (i' ≤ b ∨ i' = a + 1) ∧ d1.size = d.size ∧ A1 fU Hx p l d1 ∧ Mod (blkL p) H Hx ∧ Sort.insOuter Sort.ltInt a b i' d1 = Sort.insertionSort Sort.ltInt d a b, fun i _ => ((b : Int) - i).toNat, ⟨a + 1, d, by omega, by omega, .inr rfl, rfl, h, Mod.refl, rfl⟩, ?_⟩
  rintro i Hx ⟨i, d1, rfl, g1, g2, gs, h1, m1, e1⟩
  refine bcd (fun hlt => ?_) fun hlt => ?_
  · have e2 : Sort.insOuter Sort.ltInt a b (i + 1) (Sort.insInner Sort.ltInt a i d1) = Sort.insertionSort Sort.ltInt d a b := by rw [← e1]; conv => rhs; rw [Sort.insOuter, if_pos (by omega)]
    have go : ∀ (Hy : Hp) (d2 : Array Int), d2.size = d.size → A1 fU Hy p l d2 → Mod (blkL p) H Hy → d2 = Sort.insInner Sort.ltInt a i d1 → CHK .i64 (((i : Nat) : Int) + (1 : Int)) fun x => (∃ (i' : Nat) (d1 : Array Int), x = (i' : Nat) ∧ a + 1 ≤ i' ∧ (i' ≤ b ∨ i' = a + 1) ∧ d1.size = d.size ∧ A1 fU Hy p l d1 ∧ Mod (blkL p) H Hy ∧ Sort.insOuter Sort.ltInt a b i' d1 = Sort.insertionSort Sort.ltInt d a b) ∧ ((b : Int) - x).toNat < ((b : Int) - ((i : Nat) : Int)).toNat := fun Hy d2 s2 h2 m2 e =>
      chk (by omega) ⟨⟨i + 1, d2, by omega, by omega, .inl (by omega), s2, h2, m2, by rw [e]; exact e2⟩, by omega⟩
    refine ⟨fun j Hy => ∃ (j' : Nat) (d2 : Array Int), j = (j' : Nat) ∧ a ≤ j' ∧ j' ≤ i ∧ d2.size = d.size ∧ A1 fU Hy p l d2 ∧ Mod (blkL p) H Hy ∧ Sort.insInner Sort.ltInt a j' d2 = Sort.insInner Sort.ltInt a i d1, fun j _ => j.toNat, ⟨i, d1, rfl, by omega, Nat.le_refl _, gs, h1, m1, rfl⟩, ?_⟩
    rintro j Hy ⟨j, d2, rfl, k1, k2, s2, h2, m2, e3⟩
    refine bcd (fun hj => ?_) fun hj => ?_
    · obtain ⟨w, rfl⟩ : ∃ w, j = w + 1 := ⟨j - 1, by omega⟩
      refine rdU h2 (w + 1) rfl (by omega) (chk (by omega) (rdU h2 w (by omega) (by omega) (cmp_Less_uint32.c ?_)))
      refine bc_i (fun hc => ?_) fun hc => ?_
      · unfold slices_insertionSortOrdered_uint32.k1
        refine chk (by omega) (chk (by omega) (rdU h2 w (by omega) (by omega) (rdU h2 (w + 1) rfl (by omega) (swU h2 (i := w + 1) (j := w) (by omega) (by omega) rfl (by omega) fun H3 h3 m3 => chk (by omega) ⟨⟨w, _, by omega, by omega, by omega, by rw [Sort.swp_size]; exact s2, h3, m2.trans m3, ?_⟩, by first | omega | (dsimp only; omega)⟩))))
        rw [← e3]; conv => rhs; rw [Sort.insInner, if_pos (by rw [hc, Bool.and_true, decide_eq_true_eq]; omega)]
      · refine go Hy d2 s2 h2 m2 ?_
        rw [← e3, Sort.insInner, if_neg (by rw [hc]; simp)]
    · refine go Hy d2 s2 h2 m2 ?_
      rw [← e3]
      have : j = a := by omega
      subst this
      cases j with
      | zero => rfl
      | succ j => rw [Sort.insInner, if_neg (by simp)]
  · have e4 : d1 = Sort.insertionSort Sort.ltInt d a b := by
      rw [← e1, Sort.insOuter, if_neg (by omega)]
    rw [← e4] at hp1 hp2
    exact hK Hx d1 h1 m1 hp1 hp2
theorem slices_siftDownOrdered_uint32.c {lo hi first : Nat} {K : Hp → Prop} (h : A1 fU H p l d) (hf : first + hi ≤ d.size) (hlo : lo ≤ 1000000000) (hl : l ≤ 1000000000)
    (hK : ∀ H', A1 fU H' p l (Sort.siftDown Sort.ltInt hi first lo d) → Mod (blkL p) H H' → (Sort.siftDown Sort.ltInt hi first lo d).size = d.size → K H') : slices_siftDownOrdered_uint32.C p l cc (lo : Nat) (hi : Nat) (first : Nat) H K := by
  apply slices_siftDownOrdered_uint32.of
  have hl0 := h.1
  refine ⟨fun r Hx => ∃ (r' : Nat) (d1 : Array Int), r = (r' : Nat) ∧ r' ≤ 1000000000 ∧ d1.size = d.size ∧ A1 fU Hx p l d1 ∧ Mod (blkL p) H Hx ∧ Sort.siftDown Sort.ltInt hi first r' d1 = Sort.siftDown Sort.ltInt hi first lo d, fun r _ => ((hi : Int) - r).toNat, ⟨lo, d, rfl, hlo, rfl, h, Mod.refl, rfl⟩, ?_⟩
  rintro r Hx ⟨r, d1, rfl, g1, gs, h1, m1, e1⟩
  have fin : ∀ Hy, Sort.siftDown Sort.ltInt hi first r d1 = d1 → A1 fU Hy p l d1 → Mod (blkL p) H Hy → K Hy := fun Hy e hA hM => hK Hy (by rw [← e1, e]; exact hA) hM (by rw [← e1, e]; exact gs)
  refine chk (by omega) (chk (by omega) (bcd (fun hge => fin Hx (by rw [Sort.siftDown, dif_pos (by omega)]) h1 m1) fun hlt => ?_))
  have go : ∀ (ch : Nat) (Hy : Hp), Hy = Hx → (ch = 2 * r + 1 ∨ ch = 2 * r + 2) → ch < hi → (Sort.ltInt d1[first + r]! d1[first + ch]! = false → Sort.siftDown Sort.ltInt hi first r d1 = d1) → (Sort.ltInt d1[first + r]! d1[first + ch]! = true → Sort.siftDown Sort.ltInt hi first r d1 = Sort.siftDown Sort.ltInt hi first ch (Sort.swp d1 (first + r) (first + ch))) →
      slices_siftDownOrdered_uint32.k1 Hx (fun r Hx => ∃ (r' : Nat) (d1 : Array Int), r = (r' : Nat) ∧ r' ≤ 1000000000 ∧ d1.size = d.size ∧ A1 fU Hx p l d1 ∧ Mod (blkL p) H Hx ∧ Sort.siftDown Sort.ltInt hi first r' d1 = Sort.siftDown Sort.ltInt hi first lo d) K l p (first : Nat) (fun r _ => ((hi : Int) - r).toNat) (r : Nat) (ch : Nat) Hy := by
    intro ch Hy hHy hch hchi hs hn
    subst hHy
    unfold slices_siftDownOrdered_uint32.k1
    refine chk (by omega) (rdU h1 (first + r) (by omega) (by omega) (chk (by omega) (rdU h1 (first + ch) (by omega) (by omega) (cmp_Less_uint32.c ?_))))
    refine bcn (fun hc => fin _ (hs hc) h1 m1) fun hc => ?_
    refine chk (by omega) (chk (by omega) (chk (by omega) (rdU h1 (first + ch) (by omega) (by omega) (chk (by omega) (rdU h1 (first + r) (by omega) (by omega) (swU h1 (i := first + r) (j := first + ch) (by omega) (by omega) (by omega) (by omega) fun H3 h3 m3 => ?_))))))
    exact ⟨⟨ch, _, rfl, by omega, by rw [Sort.swp_size]; exact gs, h3, m1.trans m3, by rw [← e1, hn hc]⟩, by first | omega | (dsimp only; omega)⟩
  have e0 : 2 * ((r : Nat) : Int) + 1 = ((2 * r + 1 : Nat) : Int) := by omega
  rw [e0] at hlt ⊢
  have h21 : 2 * r + 1 < hi := by omega
  have lft : ¬ (decide (2 * r + 1 + 1 < hi) && Sort.ltInt d1[first + (2 * r + 1)]! d1[first + (2 * r + 1) + 1]!) = true → ∀ Hy, Hy = Hx → slices_siftDownOrdered_uint32.k1 Hx (fun r Hx => ∃ (r' : Nat) (d1 : Array Int), r = (r' : Nat) ∧ r' ≤ 1000000000 ∧ d1.size = d.size ∧ A1 fU Hx p l d1 ∧ Mod (blkL p) H Hx ∧ Sort.siftDown Sort.ltInt hi first r' d1 = Sort.siftDown Sort.ltInt hi first lo d) K l p (first : Nat) (fun r _ => ((hi : Int) - r).toNat) (r : Nat) ((2 * r + 1 : Nat) : Int) Hy := fun hno Hy hHy => by
    refine go (2 * r + 1) Hy hHy (.inl rfl) h21 (fun hc => ?_) fun hc => ?_
    · rw [Sort.siftDown, dif_neg (by omega), if_neg hno, if_pos (by rw [hc]; rfl)]
    · rw [Sort.siftDown, dif_neg (by omega), if_neg hno, if_neg (by rw [hc]; decide)]
  refine chk (by omega) (bcd (fun hlt2 => ?_) fun hlt2 => lft (by rw [decide_eq_false (by omega)]; simp) Hx rfl)
  refine chk (by omega) (rdU h1 (first + (2 * r + 1)) (by omega) (by omega) (chk (by omega) (chk (by omega) (rdU h1 (first + (2 * r + 1) + 1) (by omega) (by omega) (cmp_Less_uint32.c ?_)))))
  refine bc_i (fun hc => ?_) fun hc => lft (by rw [hc, Bool.and_false]; decide) Hx rfl
  refine chk (by omega) ?_
  rw [show ((2 * r + 1 : Nat) : Int) + 1 = ((2 * r + 2 : Nat) : Int) by omega]
  refine go (2 * r + 2) Hx rfl (.inr rfl) (by omega) (fun hc2 => ?_) fun hc2 => ?_
  · rw [Sort.siftDown, dif_neg (by omega), if_pos (by rw [hc, Bool.and_true, decide_eq_true_eq]; omega), if_pos (by rw [hc2]; rfl)]
  · rw [Sort.siftDown, dif_neg (by omega), if_pos (by rw [hc, Bool.and_true, decide_eq_true_eq]; omega), if_neg (by rw [hc2]; decide), dif_pos (by omega)]
theorem slices_heapSortOrdered_uint32.c {a b : Nat} {K : Hp → Prop} (h : A1 fU H p l d) (hab : a ≤ b) (hb : b ≤ d.size) (hl : l ≤ 1000000000)
    (hK : ∀ H' d', A1 fU H' p l d' → Mod (blkL p) H H' → Sort.PermIn a b d d' → Sort.SortedIn Sort.ltInt a b d' → K H') : slices_heapSortOrdered_uint32.C p l cc (a : Nat) (b : Nat) H K := by
  apply slices_heapSortOrdered_uint32.of
  have hl0 := h.1
  obtain ⟨hp1, hp2⟩ := Sort.heapSort_holds (lt := Sort.ltInt) Sort.swo_ltInt d a b hab hb
  refine chk (by omega) (chk (by omega) ⟨by decide, ?_⟩)
  have eb : ((b : Nat) : Int) - ((a : Nat) : Int) = ((b - a : Nat) : Int) := by omega
  rw [eb]
  have et : Int.tdiv (((b - a : Nat) : Int) - 1) 2 = (((b - a - 1) / 2 : Nat) : Int) := by
    by_cases h0 : b - a = 0
    · rw [h0]; decide
    · rw [show ((b - a : Nat) : Int) - 1 = ((b - a - 1 : Nat) : Int) by omega]; exact tdivN _ 2
  rw [et]
  refine chk (by omega) ?_
  refine ⟨fun i Hx => ∃ (k : Nat) (d1 : Array Int), i = (k : Int) - 1 ∧ k ≤ (b - a - 1) / 2 + 1 ∧ d1.size = d.size ∧ A1 fU Hx p l d1 ∧ Mod (blkL p) H Hx ∧ Sort.heapBuild Sort.ltInt (b - a) a k d1 = Sort.heapBuild Sort.ltInt (b - a) a ((b - a - 1) / 2 + 1) d, fun i _ => (i + 1).toNat, ⟨(b - a - 1) / 2 + 1, d, by omega, Nat.le_refl _, rfl, h, Mod.refl, rfl⟩, ?_⟩
  rintro i Hx ⟨k, d1, rfl, g1, gs, h1, m1, e1⟩
  refine bcd (fun hge => ?_) fun hge => ?_
  · obtain ⟨w, rfl⟩ : ∃ w, k = w + 1 := ⟨k - 1, by omega⟩
    rw [show ((w + 1 : Nat) : Int) - 1 = (w : Nat) by omega]
    refine slices_siftDownOrdered_uint32.c h1 (by omega) (by omega) hl fun H2 h2 m2 s2 => chk (by omega) ⟨⟨w, _, rfl, by omega, by rw [s2]; exact gs, h2, m1.trans m2, ?_⟩, by first | omega | (dsimp only; omega)⟩
    rw [← e1, Sort.heapBuild]
  · have : k = 0 := by omega
    subst this
    have ed : d1 = Sort.heapBuild Sort.ltInt (b - a) a ((b - a - 1) / 2 + 1) d := by rw [← e1]; rfl
    refine chk (by omega) ?_
    refine ⟨fun i Hy => ∃ (k : Nat) (d2 : Array Int), i = (k : Int) - 1 ∧ k ≤ b - a ∧ d2.size = d.size ∧ A1 fU Hy p l d2 ∧ Mod (blkL p) H Hy ∧ Sort.heapPop Sort.ltInt a k d2 = Sort.heapPop Sort.ltInt a (b - a) d1, fun i _ => (i + 1).toNat, ⟨b - a, d1, rfl, Nat.le_refl _, gs, h1, m1, rfl⟩, ?_⟩
    rintro i Hy ⟨k, d2, rfl, g2, s2, h2, m2, e2⟩
    refine bcd (fun hge => ?_) fun hge => ?_
    · obtain ⟨w, rfl⟩ : ∃ w, k = w + 1 := ⟨k - 1, by omega⟩
      rw [show ((w + 1 : Nat) : Int) - 1 = (w : Nat) by omega]
      refine chk (by omega) (chk (by omega) (rdU h2 (a + w) (by omega) (by omega) (rdU h2 a rfl (by omega) (swU h2 (i := a) (j := a + w) (by omega) (by omega) rfl (by omega) fun H3 h3 m3 => ?_))))
      refine slices_siftDownOrdered_uint32.c (lo := 0) h3 (by rw [Sort.swp_size]; omega) (by omega) hl fun H4 h4 m4 s4 => chk (by omega) ⟨⟨w, _, rfl, by omega, by rw [s4, Sort.swp_size]; exact s2, h4, (m2.trans m3).trans m4, ?_⟩, by first | omega | (dsimp only; omega)⟩
      rw [← e2, Sort.heapPop]
    · have : k = 0 := by omega
      subst this
      have e4 : d2 = Sort.heapSort Sort.ltInt d a b := by
        unfold Sort.heapSort
        rw [← ed, ← e2]; rfl
      rw [← e4] at hp1 hp2
      exact hK Hy d2 h2 m2 hp1 hp2
theorem slices_reverseRangeOrdered_uint32.c {a b : Nat} {K : Hp → Prop} (h : A1 fU H p l d) (hab : a < b) (hb : b ≤ d.size) (hl : l ≤ 1000000000)
    (hK : ∀ H' d', A1 fU H' p l d' → Mod (blkL p) H H' → Sort.PermIn a b d d' → K H') : slices_reverseRangeOrdered_uint32.C p l cc (a : Nat) (b : Nat) H K := by
  apply slices_reverseRangeOrdered_uint32.of
  have hl0 := h.1
  have hp1 := Sort.reverseRange_holds d a b (by omega) hb
  refine chk (by omega) ?_
  refine ⟨fun i j Hx => ∃ (i' j' : Nat) (d1 : Array Int), i = (i' : Nat) ∧ j = (j' : Nat) ∧ a ≤ i' ∧ i' ≤ j' + 1 ∧ j' < b ∧ d1.size = d.size ∧ A1 fU Hx p l d1 ∧ Mod (blkL p) H Hx ∧ Sort.reverseLoop i' j' d1 = Sort.reverseRange d a b, fun i j _ => (j - i).toNat, ⟨a, b - 1, d, rfl, by omega, Nat.le_refl _, by omega, by omega, rfl, h, Mod.refl, rfl⟩, ?_⟩
  rintro i j Hx ⟨i, j, d1, rfl, rfl, g1, g2, g3, gs, h1, m1, e1⟩
  refine bcd (fun hlt => ?_) fun hlt => ?_
  · refine rdU h1 j rfl (by omega) (rdU h1 i rfl (by omega) (swU h1 (i := i) (j := j) (by omega) (by omega) rfl rfl fun H3 h3 m3 => chk (by omega) (chk (by omega) ⟨⟨i + 1, j - 1, _, by omega, by omega, by omega, by omega, by omega, by rw [Sort.swp_size]; exact gs, h3, m1.trans m3, ?_⟩, by first | omega | (dsimp only; omega)⟩)))
    rw [← e1]; conv => rhs; rw [Sort.reverseLoop, if_pos (by omega)]
  · have : d1 = Sort.reverseRange d a b := by rw [← e1, Sort.reverseLoop, if_neg (by omega)]
    rw [← this] at hp1
    exact hK Hx d1 h1 m1 hp1
theorem slices_order2Ordered_uint32.c {q N a b : Nat} {K : Int → Int → Hp → Prop} (h : A1 fU H p l d) (ha : a < d.size) (hb : b < d.size) (hq : SwQ H q N) (hN : N ≤ 1000)
    (hK : ∀ x y H', (x = a ∧ y = b ∨ x = b ∧ y = a) → SwQ H' q (N + 1) → Mod [q] H H' → K (x : Nat) (y : Nat) H') : slices_order2Ordered_uint32.C p l cc (a : Nat) (b : Nat) (some ⟨q, 0, none⟩) H K := by
  apply slices_order2Ordered_uint32.of
  have hl0 := h.1
  obtain ⟨n, q1, q2, q3⟩ := hq
  refine rdU h b rfl hb (rdU h a rfl ha (cmp_Less_uint32.c ?_))
  refine bc_i (fun _ => ?_) fun _ => hK a b H (.inl ⟨rfl, rfl⟩) ⟨n, q1, q2, by omega⟩ Mod.refl
  refine nil (ldI_i q1 (chk (by omega) (nil (st q1 (hK b a _ (.inr ⟨rfl, rfl⟩) ⟨n + 1, rd_wr_self q1, by omega, by omega⟩ (Mod.refl.wr (.inl (by simp))))))))
theorem slices_medianOrdered_uint32.c {q N a b e : Nat} {K : Int → Hp → Prop} (h : A1 fU H p l d) (ha : a < d.size) (hb : b < d.size) (he : e < d.size) (hq : SwQ H q N) (hN : N ≤ 900) (hqp : q ∉ blkL p)
    (hK : ∀ x H', (x = a ∨ x = b ∨ x = e) → SwQ H' q (N + 3) → Mod [q] H H' → K (x : Nat) H') : slices_medianOrdered_uint32.C p l cc (a : Nat) (b : Nat) (e : Nat) (some ⟨q, 0, none⟩) H K := by
  apply slices_medianOrdered_uint32.of
  have hn : ∀ b ∈ blkL p, b ∉ [q] := fun b hb hb' => by simp at hb'; subst hb'; exact hqp hb
  refine slices_order2Ordered_uint32.c h ha hb hq (by omega) fun x y H1 hxy q1 m1 => ?_
  have h1 := A1.mod h m1 hn
  refine slices_order2Ordered_uint32.c h1 (by omega) he q1 (by omega) fun x2 y2 H2 hxy2 q2 m2 => ?_
  have h2 := A1.mod h1 m2 hn
  refine slices_order2Ordered_uint32.c h2 (by omega) (by omega) q2 (by omega) fun x3 y3 H3 hxy3 q3 m3 => ?_
  exact hK y3 H3 (by omega) q3 ((m1.trans m2).trans m3)
theorem slices_medianAdjacentOrdered_uint32.c {q N a : Nat} {K : Int → Hp → Prop} (h : A1 fU H p l d) (h0 : 0 < a) (ha : a + 1 < d.size) (hl : l ≤ 1000000000) (hq : SwQ H q N) (hN : N ≤ 900) (hqp : q ∉ blkL p)
    (hK : ∀ x H', (x = a - 1 ∨ x = a ∨ x = a + 1) → SwQ H' q (N + 3) → Mod [q] H H' → K (x : Nat) H') : slices_medianAdjacentOrdered_uint32.C p l cc (a : Nat) (some ⟨q, 0, none⟩) H K := by
  apply slices_medianAdjacentOrdered_uint32.of
  have hl0 := h.1
  refine chk (by omega) (chk (by omega) ?_)
  rw [show ((a : Nat) : Int) - 1 = ((a - 1 : Nat) : Int) by omega, show ((a : Nat) : Int) + 1 = ((a + 1 : Nat) : Int) by omega]
  exact slices_medianOrdered_uint32.c h (by omega) (by omega) ha hq hN hqp hK
theorem slices_choosePivotOrdered_uint32.c {a b : Nat} {K : Int → Int → Hp → Prop} (h : A1 fU H p l d) (hab : a < b) (hb : b ≤ d.size) (hl : l ≤ 1000000000)
    (hK : ∀ (x : Nat) t H', a ≤ x → x < b → Le H H' → K (x : Nat) t H') : slices_choosePivotOrdered_uint32.C p l cc (a : Nat) (b : Nat) H K := by
  apply slices_choosePivotOrdered_uint32.of
  have hl0 := h.1
  refine chk (by omega) fun q hq => ?_
  have le1 : Le H (upd H q [.int .i64 (0 : Int)]) := Le.upd hq
  have q1 : SwQ (upd H q [.int .i64 (0 : Int)]) q 0 := ⟨0, by rw [rd_upd_self]; rfl, by omega, by omega⟩
  have h1 := A1.le h le1
  have hqp : q ∉ blkL p := fun hx => by
    obtain ⟨b', o', e, hh⟩ := A1.at h (k := 0) (by omega)
    rw [e] at hx
    simp [blkL] at hx
    subst hx
    exact A1.there h (by omega) (by rw [e]; simp [blkL]) hq
  have hn : ∀ b ∈ blkL p, b ∉ [q] := fun b hb hb' => by simp at hb'; subst hb'; exact hqp hb
  generalize upd H q [.int .i64 (0 : Int)] = H1 at *
  rw [show ((b : Nat) : Int) - ((a : Nat) : Int) = ((b - a : Nat) : Int) by omega, show (4 : Int) = ((4 : Nat) : Int) from rfl, tdivN]
  have fin : ∀ (x : Nat) (H2 : Hp), a ≤ x → x < b → Mod [q] H1 H2 → (∃ N, SwQ H2 q N) → slices_choosePivotOrdered_uint32.k1 K q (x : Nat) H2 := fun x H2 hx1 hx2 m2 ⟨N, n, r, _⟩ => by
    have le2 : Le H H2 := m2.le le1 (by simpa using hq)
    unfold slices_choosePivotOrdered_uint32.k1
    exact ldI_i r (bcd (fun _ => hK x 1 H2 hx1 hx2 le2) fun _ => bcd (fun _ => hK x 2 H2 hx1 hx2 le2) fun _ => hK x 0 H2 hx1 hx2 le2)
  have e1 : ((a : Nat) : Int) + (((b - a) / 4 : Nat) : Int) * 1 = ((a + (b - a) / 4 : Nat) : Int) := by omega
  have e2 : ((a : Nat) : Int) + (((b - a) / 4 : Nat) : Int) * 2 = ((a + (b - a) / 4 * 2 : Nat) : Int) := by omega
  have e3 : ((a : Nat) : Int) + (((b - a) / 4 : Nat) : Int) * 3 = ((a + (b - a) / 4 * 3 : Nat) : Int) := by omega
  refine ⟨by decide, chk (by omega) (chk (by omega) (chk (by omega) ⟨by decide, chk (by omega) (chk (by omega) (chk (by omega) ⟨by decide, chk (by omega) (chk (by omega) (chk (by omega) ?_))⟩))⟩))⟩
  rw [e1, e2, e3]
  refine bcd (fun h8 => bcd (fun h50 => ?_) fun h50 => ?_) fun h8 => fin _ _ (by omega) (by omega) Mod.refl ⟨0, q1⟩
  · refine slices_medianAdjacentOrdered_uint32.c h1 (by omega) (by omega) hl q1 (by omega) hqp fun x1 H2 hx1 q2 m2 => ?_
    have h2 := A1.mod h1 m2 hn
    refine slices_medianAdjacentOrdered_uint32.c h2 (by omega) (by omega) hl q2 (by omega) hqp fun x2 H3 hx2 q3 m3 => ?_
    have h3 := A1.mod h2 m3 hn
    refine slices_medianAdjacentOrdered_uint32.c h3 (by omega) (by omega) hl q3 (by omega) hqp fun x3 H4 hx3 q4 m4 => ?_
    have h4 := A1.mod h3 m4 hn
    refine slices_medianOrdered_uint32.c h4 (by omega) (by omega) (by omega) q4 (by omega) hqp fun x4 H5 hx4 q5 m5 => ?_
    exact fin x4 H5 (by omega) (by omega) (((m2.trans m3).trans m4).trans m5) ⟨_, q5⟩
  · refine slices_medianOrdered_uint32.c h1 (by omega) (by omega) (by omega) q1 (by omega) hqp fun x1 H2 hx1 q2 m2 => ?_
    exact fin x1 H2 (by omega) (by omega) m2 ⟨_, q2⟩
end
section
variable {H : Hp} {p : Option Addr} {l cc : Nat} {d : Array Int}
theorem slices_partitionOrdered_uint32.c {a b pv : Nat} {K : Int → Bool → Hp → Prop} (h : A1 fU H p l d) (hp1 : a ≤ pv) (hp2 : pv < b) (hb : b ≤ d.size) (hl : l ≤ 1000000000)
    (hK : ∀ H', A1 fU H' p l (Sort.partition Sort.ltInt d a b pv).2.2 → Mod (blkL p) H H' → K ((Sort.partition Sort.ltInt d a b pv).1 : Nat) (Sort.partition Sort.ltInt d a b pv).2.1 H') : slices_partitionOrdered_uint32.C p l cc (a : Nat) (b : Nat) (pv : Nat) H K := by
  apply slices_partitionOrdered_uint32.of
  have hl0 := h.1
  refine rdU h pv rfl (by omega) (rdU h a rfl (by omega) (swU h (i := a) (j := pv) (by omega) (by omega) rfl rfl fun H1 h1 m1 => chk (by omega) (chk (by omega) ?_)))
  obtain ⟨d1, hd1⟩ : ∃ d1, d1 = Sort.swp d a pv := ⟨_, rfl⟩
  rw [← hd1] at h1
  have s1 : d1.size = d.size := by rw [hd1, Sort.swp_size]
  have hres : Sort.partition Sort.ltInt d a b pv = (if Sort.scanUp (fun x => Sort.ltInt x d1[a]!) d1 (b - 1) (a + 1) > Sort.scanDown (fun x => !Sort.ltInt x d1[a]!) d1 (Sort.scanUp (fun x => Sort.ltInt x d1[a]!) d1 (b - 1) (a + 1)) (b - 1) then (Sort.scanDown (fun x => !Sort.ltInt x d1[a]!) d1 (Sort.scanUp (fun x => Sort.ltInt x d1[a]!) d1 (b - 1) (a + 1)) (b - 1), true, Sort.swp d1 (Sort.scanDown (fun x => !Sort.ltInt x d1[a]!) d1 (Sort.scanUp (fun x => Sort.ltInt x d1[a]!) d1 (b - 1) (a + 1)) (b - 1)) a) else
      ((Sort.partLoop Sort.ltInt a (Sort.scanUp (fun x => Sort.ltInt x d1[a]!) d1 (b - 1) (a + 1) + 1) (Sort.scanDown (fun x => !Sort.ltInt x d1[a]!) d1 (Sort.scanUp (fun x => Sort.ltInt x d1[a]!) d1 (b - 1) (a + 1)) (b - 1) - 1) (Sort.swp d1 (Sort.scanUp (fun x => Sort.ltInt x d1[a]!) d1 (b - 1) (a + 1)) (Sort.scanDown (fun x => !Sort.ltInt x d1[a]!) d1 (Sort.scanUp (fun x => Sort.ltInt x d1[a]!) d1 (b - 1) (a + 1)) (b - 1)))).1, false, Sort.swp (Sort.partLoop Sort.ltInt a (Sort.scanUp (fun x => Sort.ltInt x d1[a]!) d1 (b - 1) (a + 1) + 1) (Sort.scanDown (fun x => !Sort.ltInt x d1[a]!) d1 (Sort.scanUp (fun x => Sort.ltInt x d1[a]!) d1 (b - 1) (a + 1)) (b - 1) - 1) (Sort.swp d1 (Sort.scanUp (fun x => Sort.ltInt x d1[a]!) d1 (b - 1) (a + 1)) (Sort.scanDown (fun x => !Sort.ltInt x d1[a]!) d1 (Sort.scanUp (fun x => Sort.ltInt x d1[a]!) d1 (b - 1) (a + 1)) (b - 1)))).2 (Sort.partLoop Sort.ltInt a (Sort.scanUp (fun x => Sort.ltInt x d1[a]!) d1 (b - 1) (a + 1) + 1) (Sort.scanDown (fun x => !Sort.ltInt x d1[a]!) d1 (Sort.scanUp (fun x => Sort.ltInt x d1[a]!) d1 (b - 1) (a + 1)) (b - 1) - 1) (Sort.swp d1 (Sort.scanUp (fun x => Sort.ltInt x d1[a]!) d1 (b - 1) (a + 1)) (Sort.scanDown (fun x => !Sort.ltInt x d1[a]!) d1 (Sort.scanUp (fun x => Sort.ltInt x d1[a]!) d1 (b - 1) (a + 1)) (b - 1)))).1 a)) := by
    subst hd1; rfl
  generalize Sort.partition Sort.ltInt d a b pv = PR at *
  have g0 := Sort.scanUp_ge (fun x => Sort.ltInt x d1[a]!) d1 (b - 1) (a + 1)
  obtain ⟨i0, hi0⟩ : ∃ i0, i0 = Sort.scanUp (fun x => Sort.ltInt x d1[a]!) d1 (b - 1) (a + 1) := ⟨_, rfl⟩
  rw [← hi0] at hres g0
  obtain ⟨j0, hj0⟩ : ∃ j0, j0 = Sort.scanDown (fun x => !Sort.ltInt x d1[a]!) d1 i0 (b - 1) := ⟨_, rfl⟩
  rw [← hj0] at hres
  -- behind the first two loops
  have k2 : ∀ Hy, Hy = H1 → i0 ≤ j0 + 1 → j0 < b → a ≤ j0 → slices_partitionOrdered_uint32.k2 K (a : Nat) l p (i0 : Nat) (j0 : Nat) Hy := by
    rintro Hy rfl q1 q2 q3
    unfold slices_partitionOrdered_uint32.k2
    refine bcd (fun hlt => ?_) fun hlt => ?_
    · refine rdU h1 a rfl (by omega) (rdU h1 j0 rfl (by omega) (swU h1 (i := j0) (j := a) (by omega) (by omega) rfl rfl fun H2 h2 m2 => ?_))
      rw [if_pos (by omega)] at hres
      rw [hres] at hK
      exact hK H2 h2 (m1.trans m2)
    · rw [if_neg (by omega)] at hres
      refine rdU h1 j0 rfl (by omega) (rdU h1 i0 rfl (by omega) (swU h1 (i := i0) (j := j0) (by omega) (by omega) rfl rfl fun H2 h2 m2 => chk (by omega) (chk (by omega) ?_)))
      generalize hR : Sort.partLoop Sort.ltInt a (i0 + 1) (j0 - 1) (Sort.swp d1 i0 j0) = R at hres
      refine ⟨fun i j Hx => ∃ (i' j' : Nat) (d2 : Array Int), i = (i' : Nat) ∧ j = (j' : Nat) ∧ a + 1 ≤ i' ∧ i' ≤ b + 1 ∧ a ≤ j' ∧ j' < b ∧ d2.size = d.size ∧ A1 fU Hx p l d2 ∧ Mod (blkL p) H Hx ∧ Sort.partLoop Sort.ltInt a i' j' d2 = R, fun i j _ => (j + 2 - i).toNat, ⟨i0 + 1, j0 - 1, _, by omega, by omega, by omega, by omega, by omega, by omega, by rw [Sort.swp_size]; exact s1, h2, m1.trans m2, hR⟩, ?_⟩
      rintro i j Hx ⟨i, j, d2, rfl, rfl, w1, w2, w3, w4, s2, h2x, m2x, eR⟩
      rw [Sort.partLoop_eq] at eR
      have gi := Sort.scanUp_ge (fun x => Sort.ltInt x d2[a]!) d2 j i
      obtain ⟨i1, hi1⟩ : ∃ i1, i1 = Sort.scanUp (fun x => Sort.ltInt x d2[a]!) d2 j i := ⟨_, rfl⟩
      rw [← hi1] at eR gi
      obtain ⟨j1, hj1⟩ : ∃ j1, j1 = Sort.scanDown (fun x => !Sort.ltInt x d2[a]!) d2 i1 j := ⟨_, rfl⟩
      have gj := Sort.scanDown_le (fun x => !Sort.ltInt x d2[a]!) d2 i1 j
      rw [← hj1] at eR gj
      have k4 : ∀ Hz, Hz = Hx → i1 ≤ b + 1 → a ≤ j1 → slices_partitionOrdered_uint32.k4 Hx (fun i j Hx => ∃ (i' j' : Nat) (d2 : Array Int), i = (i' : Nat) ∧ j = (j' : Nat) ∧ a + 1 ≤ i' ∧ i' ≤ b + 1 ∧ a ≤ j' ∧ j' < b ∧ d2.size = d.size ∧ A1 fU Hx p l d2 ∧ Mod (blkL p) H Hx ∧ Sort.partLoop Sort.ltInt a i' j' d2 = R) K (a : Nat) l p (i : Nat) (i1 : Nat) (j : Nat) (fun i j _ => (j + 2 - i).toNat) (j1 : Nat) Hz := by
        rintro Hz rfl v1 v2
        unfold slices_partitionOrdered_uint32.k4 slices_partitionOrdered_uint32.k5
        refine bcd (fun hlt => ?_) fun hlt => ?_
        · rw [if_pos (by omega)] at eR
          refine rdU h2x a rfl (by omega) (rdU h2x j1 rfl (by omega) (swU h2x (i := j1) (j := a) (by omega) (by omega) rfl rfl fun H3 h3 m3 => ?_))
          rw [hres, ← eR] at hK
          exact hK H3 h3 (m2x.trans m3)
        · rw [if_neg (by omega)] at eR
          exact rdU h2x j1 rfl (by omega) (rdU h2x i1 rfl (by omega) (swU h2x (i := i1) (j := j1) (by omega) (by omega) rfl rfl fun H3 h3 m3 => chk (by omega) (chk (by omega) ⟨⟨i1 + 1, j1 - 1, _, by omega, by omega, by omega, by omega, by omega, by omega, by rw [Sort.swp_size]; exact s2, h3, m2x.trans m3, eR⟩, by first | omega | (dsimp only; omega)⟩)))
      have k3 : ∀ Hz, Hz = Hx → i1 ≤ b + 1 → slices_partitionOrdered_uint32.k3 Hx (fun i j Hx => ∃ (i' j' : Nat) (d2 : Array Int), i = (i' : Nat) ∧ j = (j' : Nat) ∧ a + 1 ≤ i' ∧ i' ≤ b + 1 ∧ a ≤ j' ∧ j' < b ∧ d2.size = d.size ∧ A1 fU Hx p l d2 ∧ Mod (blkL p) H Hx ∧ Sort.partLoop Sort.ltInt a i' j' d2 = R) K (a : Nat) l p (i : Nat) (j : Nat) (fun i j _ => (j + 2 - i).toNat) (i1 : Nat) Hz := by
        rintro Hz rfl v1
        unfold slices_partitionOrdered_uint32.k3
        refine ⟨fun t Hw => ∃ t' : Nat, t = (t' : Nat) ∧ a ≤ t' ∧ t' < b ∧ Hw = Hz ∧ Sort.scanDown (fun x => !Sort.ltInt x d2[a]!) d2 i1 t' = j1, fun t _ => t.toNat, ⟨j, rfl, w3, w4, rfl, hj1.symm⟩, ?_⟩
        rintro t Hw ⟨t, rfl, u1, u2, rfl, u3⟩
        refine bcd (fun hle => ?_) fun hle => ?_
        · obtain ⟨w, rfl⟩ : ∃ w, t = w + 1 := ⟨t - 1, by omega⟩
          refine rdU h2x (w + 1) rfl (by omega) (rdU h2x a rfl (by omega) (cmp_Less_uint32.c ?_))
          refine bcn (fun hc => ?_) fun hc => ?_
          · refine chk (by omega) ⟨⟨w, by omega, by omega, by omega, by trivial, ?_⟩, by first | omega | (dsimp only; omega)⟩
            rw [← u3]; conv => rhs; rw [Sort.scanDown, if_pos (by rw [hc]; simp; omega)]
          · have : j1 = w + 1 := by rw [← u3, Sort.scanDown, if_neg (by rw [hc]; simp)]
            rw [← this]; exact k4 _ rfl v1 (by omega)
        · have : j1 = t := by
            rw [← u3]
            cases t with
            | zero => rfl
            | succ t => rw [Sort.scanDown, if_neg (by simp; omega)]
          rw [← this]; exact k4 _ rfl v1 (by omega)
      refine ⟨fun t Hw => ∃ t' : Nat, t = (t' : Nat) ∧ a + 1 ≤ t' ∧ t' ≤ b + 1 ∧ Hw = Hx ∧ Sort.scanUp (fun x => Sort.ltInt x d2[a]!) d2 j t' = i1, fun t _ => ((b : Int) + 1 - t).toNat, ⟨i, rfl, w1, w2, rfl, hi1.symm⟩, ?_⟩
      rintro t Hw ⟨t, rfl, u1, u2, rfl, u3⟩
      refine bcd (fun hle => ?_) fun hle => ?_
      · refine rdU h2x t rfl (by omega) (rdU h2x a rfl (by omega) (cmp_Less_uint32.c ?_))
        refine bc_i (fun hc => ?_) fun hc => ?_
        · refine chk (by omega) ⟨⟨t + 1, by omega, by omega, by omega, by trivial, ?_⟩, by first | omega | (dsimp only; omega)⟩
          rw [← u3]; conv => rhs; rw [Sort.scanUp, if_pos (by rw [hc]; simp; omega)]
        · have : i1 = t := by rw [← u3, Sort.scanUp, if_neg (by rw [hc]; simp)]
          rw [← this]; exact k3 _ rfl (by omega)
      · have : i1 = t := by rw [← u3, Sort.scanUp, if_neg (by simp; omega)]
        rw [← this]; exact k3 _ rfl (by omega)
  have k1 : ∀ Hy, Hy = H1 → i0 ≤ b → slices_partitionOrdered_uint32.k1 K (a : Nat) l p ((b : Nat) - 1 : Int) (i0 : Nat) Hy := by
    rintro Hy rfl q1
    unfold slices_partitionOrdered_uint32.k1
    refine ⟨fun t Hw => ∃ t' : Nat, t = (t' : Nat) ∧ a ≤ t' ∧ t' < b ∧ i0 ≤ t' + 1 ∧ Hw = Hy ∧ Sort.scanDown (fun x => !Sort.ltInt x d1[a]!) d1 i0 t' = j0, fun t _ => t.toNat, ⟨b - 1, by omega, by omega, by omega, by omega, rfl, hj0.symm⟩, ?_⟩
    rintro t Hw ⟨t, rfl, u1, u2, u4, rfl, u3⟩
    refine bcd (fun hle => ?_) fun hle => ?_
    · obtain ⟨w, rfl⟩ : ∃ w, t = w + 1 := ⟨t - 1, by omega⟩
      refine rdU h1 (w + 1) rfl (by omega) (rdU h1 a rfl (by omega) (cmp_Less_uint32.c ?_))
      refine bcn (fun hc => ?_) fun hc => ?_
      · refine chk (by omega) ⟨⟨w, by omega, by omega, by omega, by omega, by trivial, ?_⟩, by first | omega | (dsimp only; omega)⟩
        rw [← u3]; conv => rhs; rw [Sort.scanDown, if_pos (by rw [hc]; simp; omega)]
      · have : j0 = w + 1 := by rw [← u3, Sort.scanDown, if_neg (by rw [hc]; simp)]
        rw [← this]; exact k2 _ rfl (by omega) (by omega) (by omega)
    · have : j0 = t := by
        rw [← u3]
        cases t with
        | zero => rfl
        | succ t => rw [Sort.scanDown, if_neg (by simp; omega)]
      rw [← this]; exact k2 _ rfl (by omega) (by omega) (by omega)
  refine ⟨fun t Hw => ∃ t' : Nat, t = (t' : Nat) ∧ a + 1 ≤ t' ∧ t' ≤ b ∧ Hw = H1 ∧ Sort.scanUp (fun x => Sort.ltInt x d1[a]!) d1 (b - 1) t' = i0, fun t _ => ((b : Int) + 1 - t).toNat, ⟨a + 1, by omega, by omega, by omega, rfl, hi0.symm⟩, ?_⟩
  rintro t Hw ⟨t, rfl, u1, u2, rfl, u3⟩
  refine bcd (fun hle => ?_) fun hle => ?_
  · refine rdU h1 t rfl (by omega) (rdU h1 a rfl (by omega) (cmp_Less_uint32.c ?_))
    refine bc_i (fun hc => ?_) fun hc => ?_
    · refine chk (by omega) ⟨⟨t + 1, by omega, by omega, by omega, by trivial, ?_⟩, by first | omega | (dsimp only; omega)⟩
      rw [← u3]; conv => rhs; rw [Sort.scanUp, if_pos (by rw [hc]; simp; omega)]
    · have : i0 = t := by rw [← u3, Sort.scanUp, if_neg (by rw [hc]; simp)]
      rw [← this]; exact k1 _ rfl (by omega)
  · have : i0 = t := by rw [← u3, Sort.scanUp, if_neg (by simp; omega)]
    rw [← this]; exact k1 _ rfl (by omega)
theorem slices_partitionEqualOrdered_uint32.c {a b pv : Nat} {K : Int → Hp → Prop} (h : A1 fU H p l d) (hp1 : a ≤ pv) (hp2 : pv < b) (hb : b ≤ d.size) (hl : l ≤ 1000000000)
    (hK : ∀ H', A1 fU H' p l (Sort.partitionEqual Sort.ltInt d a b pv).2 → Mod (blkL p) H H' → K ((Sort.partitionEqual Sort.ltInt d a b pv).1 : Nat) H') : slices_partitionEqualOrdered_uint32.C p l cc (a : Nat) (b : Nat) (pv : Nat) H K := by
  apply slices_partitionEqualOrdered_uint32.of
  have hl0 := h.1
  refine rdU h pv rfl (by omega) (rdU h a rfl (by omega) (swU h (i := a) (j := pv) (by omega) (by omega) rfl rfl fun H1 h1 m1 => chk (by omega) (chk (by omega) ?_)))
  have hres : Sort.partitionEqual Sort.ltInt d a b pv = Sort.partEqLoop Sort.ltInt a (a + 1) (b - 1) (Sort.swp d a pv) := rfl
  generalize Sort.partitionEqual Sort.ltInt d a b pv = R at *
  refine ⟨fun i j Hx => ∃ (i' j' : Nat) (d2 : Array Int), i = (i' : Nat) ∧ j = (j' : Nat) ∧ a + 1 ≤ i' ∧ i' ≤ b + 1 ∧ a ≤ j' ∧ j' < b ∧ d2.size = d.size ∧ A1 fU Hx p l d2 ∧ Mod (blkL p) H Hx ∧ Sort.partEqLoop Sort.ltInt a i' j' d2 = R, fun i j _ => (j + 2 - i).toNat, ⟨a + 1, b - 1, _, by omega, by omega, by omega, by omega, by omega, by omega, by rw [Sort.swp_size], h1, m1, hres.symm⟩, ?_⟩
  rintro i j Hx ⟨i, j, d2, rfl, rfl, w1, w2, w3, w4, s2, h2x, m2x, eR⟩
  rw [Sort.partEqLoop_eq] at eR
  have gi := Sort.scanUp_ge (fun x => !Sort.ltInt d2[a]! x) d2 j i
  obtain ⟨i1, hi1⟩ : ∃ i1, i1 = Sort.scanUp (fun x => !Sort.ltInt d2[a]! x) d2 j i := ⟨_, rfl⟩
  rw [← hi1] at eR gi
  obtain ⟨j1, hj1⟩ : ∃ j1, j1 = Sort.scanDown (fun x => Sort.ltInt d2[a]! x) d2 i1 j := ⟨_, rfl⟩
  have gj := Sort.scanDown_le (fun x => Sort.ltInt d2[a]! x) d2 i1 j
  rw [← hj1] at eR gj
  have k2 : ∀ Hz, Hz = Hx → i1 ≤ b + 1 → a ≤ j1 → slices_partitionEqualOrdered_uint32.k2 Hx (fun i j Hx => ∃ (i' j' : Nat) (d2 : Array Int), i = (i' : Nat) ∧ j = (j' : Nat) ∧ a + 1 ≤ i' ∧ i' ≤ b + 1 ∧ a ≤ j' ∧ j' < b ∧ d2.size = d.size ∧ A1 fU Hx p l d2 ∧ Mod (blkL p) H Hx ∧ Sort.partEqLoop Sort.ltInt a i' j' d2 = R) K l p (i : Nat) (i1 : Nat) (j : Nat) (fun i j _ => (j + 2 - i).toNat) (j1 : Nat) Hz := by
    rintro Hz rfl v1 v2
    unfold slices_partitionEqualOrdered_uint32.k2
    refine bcd (fun hlt => ?_) fun hlt => ?_
    · rw [if_pos (by omega)] at eR
      rw [← eR] at hK
      exact hK _ h2x m2x
    · rw [if_neg (by omega)] at eR
      exact rdU h2x j1 rfl (by omega) (rdU h2x i1 rfl (by omega) (swU h2x (i := i1) (j := j1) (by omega) (by omega) rfl rfl fun H3 h3 m3 => chk (by omega) (chk (by omega) ⟨⟨i1 + 1, j1 - 1, _, by omega, by omega, by omega, by omega, by omega, by omega, by rw [Sort.swp_size]; exact s2, h3, m2x.trans m3, eR⟩, by first | omega | (dsimp only; omega)⟩)))
  have k1 : ∀ Hz, Hz = Hx → i1 ≤ b + 1 → slices_partitionEqualOrdered_uint32.k1 Hx (fun i j Hx => ∃ (i' j' : Nat) (d2 : Array Int), i = (i' : Nat) ∧ j = (j' : Nat) ∧ a + 1 ≤ i' ∧ i' ≤ b + 1 ∧ a ≤ j' ∧ j' < b ∧ d2.size = d.size ∧ A1 fU Hx p l d2 ∧ Mod (blkL p) H Hx ∧ Sort.partEqLoop Sort.ltInt a i' j' d2 = R) K (a : Nat) l p (i : Nat) (j : Nat) (fun i j _ => (j + 2 - i).toNat) (i1 : Nat) Hz := by
    rintro Hz rfl v1
    unfold slices_partitionEqualOrdered_uint32.k1
    refine ⟨fun t Hw => ∃ t' : Nat, t = (t' : Nat) ∧ a ≤ t' ∧ t' < b ∧ Hw = Hz ∧ Sort.scanDown (fun x => Sort.ltInt d2[a]! x) d2 i1 t' = j1, fun t _ => t.toNat, ⟨j, rfl, w3, w4, rfl, hj1.symm⟩, ?_⟩
    rintro t Hw ⟨t, rfl, u1, u2, rfl, u3⟩
    refine bcd (fun hle => ?_) fun hle => ?_
    · obtain ⟨w, rfl⟩ : ∃ w, t = w + 1 := ⟨t - 1, by omega⟩
      refine rdU h2x a rfl (by omega) (rdU h2x (w + 1) rfl (by omega) (cmp_Less_uint32.c ?_))
      refine bc_i (fun hc => ?_) fun hc => ?_
      · refine chk (by omega) ⟨⟨w, by omega, by omega, by omega, by trivial, ?_⟩, by first | omega | (dsimp only; omega)⟩
        rw [← u3]; conv => rhs; rw [Sort.scanDown, if_pos (by rw [hc]; simp; omega)]
      · have : j1 = w + 1 := by rw [← u3, Sort.scanDown, if_neg (by rw [hc]; simp)]
        rw [← this]; exact k2 _ rfl v1 (by omega)
    · have : j1 = t := by
        rw [← u3]
        cases t with
        | zero => rfl
        | succ t => rw [Sort.scanDown, if_neg (by simp; omega)]
      rw [← this]; exact k2 _ rfl v1 (by omega)
  refine ⟨fun t Hw => ∃ t' : Nat, t = (t' : Nat) ∧ a + 1 ≤ t' ∧ t' ≤ b + 1 ∧ Hw = Hx ∧ Sort.scanUp (fun x => !Sort.ltInt d2[a]! x) d2 j t' = i1, fun t _ => ((b : Int) + 1 - t).toNat, ⟨i, rfl, w1, w2, rfl, hi1.symm⟩, ?_⟩
  rintro t Hw ⟨t, rfl, u1, u2, rfl, u3⟩
  refine bcd (fun hle => ?_) fun hle => ?_
  · refine rdU h2x a rfl (by omega) (rdU h2x t rfl (by omega) (cmp_Less_uint32.c ?_))
    refine bcn (fun hc => ?_) fun hc => ?_
    · refine chk (by omega) ⟨⟨t + 1, by omega, by omega, by omega, by trivial, ?_⟩, by first | omega | (dsimp only; omega)⟩
      rw [← u3]; conv => rhs; rw [Sort.scanUp, if_pos (by rw [hc]; simp; omega)]
    · have : i1 = t := by rw [← u3, Sort.scanUp, if_neg (by rw [hc]; simp)]
      rw [← this]; exact k1 _ rfl (by omega)
  · have : i1 = t := by rw [← u3, Sort.scanUp, if_neg (by simp; omega)]
    rw [← this]; exact k1 _ rfl (by omega)
theorem slices_partialInsertionSortOrdered_uint32.c {a b : Nat} {K : Bool → Hp → Prop} (h : A1 fU H p l d) (hab : a < b) (hb : b ≤ d.size) (hl : l ≤ 1000000000)
    (hK : ∀ H', A1 fU H' p l (Sort.partialInsertionSort Sort.ltInt d a b).1 → Mod (blkL p) H H' → K (Sort.partialInsertionSort Sort.ltInt d a b).2 H') : slices_partialInsertionSortOrdered_uint32.C p l cc (a : Nat) (b : Nat) H K := by
  apply slices_partialInsertionSortOrdered_uint32.of
  have hl0 := h.1
  have hres : Sort.partialInsertionSort Sort.ltInt d a b = Sort.partialIns Sort.ltInt a b 5 (a + 1) d := rfl
  generalize Sort.partialInsertionSort Sort.ltInt d a b = R at *
  refine chk (by omega) ?_
  refine ⟨fun i j Hx => ∃ (i' j' : Nat) (d1 : Array Int), i = (i' : Nat) ∧ j = (j' : Nat) ∧ a + 1 ≤ i' ∧ i' ≤ b ∧ j' ≤ 5 ∧ d1.size = d.size ∧ A1 fU Hx p l d1 ∧ Mod (blkL p) H Hx ∧ Sort.partialIns Sort.ltInt a b (5 - j') i' d1 = R, fun _ j _ => (5 - j).toNat, ⟨a + 1, 0, d, by omega, rfl, by omega, by omega, by omega, rfl, h, Mod.refl, hres.symm⟩, ?_⟩
  rintro i j Hx ⟨i, j, d1, rfl, rfl, g1, g2, g3, gs, h1, m1, e1⟩
  refine bcd (fun hlt => ?_) fun hlt => ?_
  · obtain ⟨s, hs⟩ : ∃ s, 5 - j = s + 1 := ⟨5 - j - 1, by omega⟩
    rw [hs, Sort.partialIns_succ] at e1
    obtain ⟨i1, hi1⟩ : ∃ i1, i1 = Sort.scanSorted Sort.ltInt d1 b i := ⟨_, rfl⟩
    rw [← hi1] at e1
    have k1 : ∀ Hy, Hy = Hx → a + 1 ≤ i1 → i1 ≤ b → slices_partialInsertionSortOrdered_uint32.k1 Hx (fun i j Hx => ∃ (i' j' : Nat) (d1 : Array Int), i = (i' : Nat) ∧ j = (j' : Nat) ∧ a + 1 ≤ i' ∧ i' ≤ b ∧ j' ≤ 5 ∧ d1.size = d.size ∧ A1 fU Hx p l d1 ∧ Mod (blkL p) H Hx ∧ Sort.partialIns Sort.ltInt a b (5 - j') i' d1 = R) K (a : Nat) (b : Nat) l p (i : Nat) (j : Nat) (fun _ j _ => (5 - j).toNat) (i1 : Nat) Hy := by
      rintro Hy rfl q1 q2
      unfold slices_partialInsertionSortOrdered_uint32.k1
      refine bcd (fun he => ?_) fun he => ?_
      · rw [if_pos (by omega)] at e1
        rw [← e1] at hK
        exact hK _ h1 m1
      rw [if_neg (by omega)] at e1
      refine chk (by omega) (bcd (fun h50 => ?_) fun h50 => ?_)
      · rw [if_pos (by omega)] at e1
        rw [← e1] at hK
        exact hK _ h1 m1
      rw [if_neg (by omega)] at e1
      refine chk (by omega) (chk (by omega) (rdU h1 (i1 - 1) (by omega) (by omega) (rdU h1 i1 rfl (by omega) (swU h1 (i := i1) (j := i1 - 1) (by omega) (by omega) rfl (by omega) fun H2 h2 m2 => chk (by omega) ?_))))
      generalize hd2 : Sort.swp d1 i1 (i1 - 1) = d2 at *
      have s2 : d2.size = d.size := by rw [← hd2, Sort.swp_size]; exact gs
      -- behind the shift down
      have k2 : ∀ (Hz : Hp) (d3 : Array Int), d3 = Sort.fixDown Sort.ltInt a i1 d2 → d3.size = d.size → A1 fU Hz p l d3 → Mod (blkL p) H Hz → slices_partialInsertionSortOrdered_uint32.k2 Hy (fun i j Hx => ∃ (i' j' : Nat) (d1 : Array Int), i = (i' : Nat) ∧ j = (j' : Nat) ∧ a + 1 ≤ i' ∧ i' ≤ b ∧ j' ≤ 5 ∧ d1.size = d.size ∧ A1 fU Hx p l d1 ∧ Mod (blkL p) H Hx ∧ Sort.partialIns Sort.ltInt a b (5 - j') i' d1 = R) (b : Nat) l p (i1 : Nat) (i : Nat) (j : Nat) (fun _ j _ => (5 - j).toNat) Hz := by
        intro Hz d3 hd3 s3 h3 m3
        rw [← hd3] at e1
        have fin : ∀ (Hw : Hp) (d4 : Array Int), d4 = Sort.fixUp Sort.ltInt b i1 d3 → d4.size = d.size → A1 fU Hw p l d4 → Mod (blkL p) H Hw → CHK .i64 (((j : Nat) : Int) + (1 : Int)) fun x => (∃ (i' j' : Nat) (d1 : Array Int), ((i1 : Nat) : Int) = (i' : Nat) ∧ x = (j' : Nat) ∧ a + 1 ≤ i' ∧ i' ≤ b ∧ j' ≤ 5 ∧ d1.size = d.size ∧ A1 fU Hw p l d1 ∧ Mod (blkL p) H Hw ∧ Sort.partialIns Sort.ltInt a b (5 - j') i' d1 = R) ∧ (5 - x).toNat < (5 - ((j : Nat) : Int)).toNat := fun Hw d4 hd4 s4 h4 m4 =>
          chk (by omega) ⟨⟨i1, j + 1, d4, rfl, by omega, q1, q2, by omega, s4, h4, m4, by rw [show 5 - (j + 1) = s by omega, hd4]; exact e1⟩, by omega⟩
        unfold slices_partialInsertionSortOrdered_uint32.k2
        refine chk (by omega) (bcd (fun hge => ?_) fun hge => fin Hz d3 (by unfold Sort.fixUp; rw [if_neg (by omega)]) s3 h3 m3)
        have hfu : Sort.fixUp Sort.ltInt b i1 d3 = Sort.shiftUp Sort.ltInt b (i1 + 1) d3 := by unfold Sort.fixUp; rw [if_pos (by omega)]
        refine chk (by omega) ?_
        refine ⟨fun t Hw => ∃ (t' : Nat) (d4 : Array Int), t = (t' : Nat) ∧ i1 + 1 ≤ t' ∧ t' ≤ b ∧ d4.size = d.size ∧ A1 fU Hw p l d4 ∧ Mod (blkL p) H Hw ∧ Sort.shiftUp Sort.ltInt b t' d4 = Sort.fixUp Sort.ltInt b i1 d3, fun t _ => ((b : Int) - t).toNat, ⟨i1 + 1, d3, by omega, by omega, by omega, s3, h3, m3, hfu.symm⟩, ?_⟩
        rintro t Hw ⟨t, d4, rfl, u1, u2, s4, h4, m4, e4⟩
        refine bcd (fun hlt' => ?_) fun hlt' => fin Hw d4 (by rw [← e4, Sort.shiftUp, if_neg (by omega)]) s4 h4 m4
        rw [Sort.shiftUp, if_pos (by omega)] at e4
        refine rdU h4 t rfl (by omega) (chk (by omega) (rdU h4 (t - 1) (by omega) (by omega) (cmp_Less_uint32.c ?_)))
        refine bcn (fun hc => ?_) fun hc => ?_
        · rw [if_pos (by rw [hc]; rfl)] at e4
          exact fin Hw d4 e4 s4 h4 m4
        · rw [if_neg (by rw [hc]; decide)] at e4
          exact chk (by omega) (chk (by omega) (rdU h4 (t - 1) (by omega) (by omega) (rdU h4 t rfl (by omega) (swU h4 (i := t) (j := t - 1) (by omega) (by omega) rfl (by omega) fun H5 h5 m5 => chk (by omega) ⟨⟨t + 1, _, by omega, by omega, by omega, by rw [Sort.swp_size]; exact s4, h5, m4.trans m5, e4⟩, by first | omega | (dsimp only; omega)⟩))))
      refine bcd (fun hge => ?_) fun hge => k2 H2 d2 (by unfold Sort.fixDown; rw [if_neg (by omega)]) s2 h2 (m1.trans m2)
      have hfd : Sort.fixDown Sort.ltInt a i1 d2 = Sort.shiftDown Sort.ltInt (i1 - 1) d2 := by unfold Sort.fixDown; rw [if_pos (by omega)]
      refine chk (by omega) ?_
      refine ⟨fun t Hw => ∃ (t' : Nat) (d3 : Array Int), t = (t' : Nat) ∧ t' ≤ i1 - 1 ∧ d3.size = d.size ∧ A1 fU Hw p l d3 ∧ Mod (blkL p) H Hw ∧ Sort.shiftDown Sort.ltInt t' d3 = Sort.fixDown Sort.ltInt a i1 d2, fun t _ => t.toNat, ⟨i1 - 1, d2, by omega, Nat.le_refl _, s2, h2, m1.trans m2, hfd.symm⟩, ?_⟩
      rintro t Hw ⟨t, d3, rfl, u1, s3, h3, m3, e3⟩
      refine bcd (fun hge' => ?_) fun hge' => ?_
      · obtain ⟨w, rfl⟩ : ∃ w, t = w + 1 := ⟨t - 1, by omega⟩
        rw [Sort.shiftDown] at e3
        refine rdU h3 (w + 1) rfl (by omega) (chk (by omega) (rdU h3 w (by omega) (by omega) (cmp_Less_uint32.c ?_)))
        refine bcn (fun hc => ?_) fun hc => ?_
        · rw [if_pos (by rw [hc]; rfl)] at e3
          exact k2 Hw d3 e3 s3 h3 m3
        · rw [if_neg (by rw [hc]; decide)] at e3
          exact chk (by omega) (chk (by omega) (rdU h3 w (by omega) (by omega) (rdU h3 (w + 1) rfl (by omega) (swU h3 (i := w + 1) (j := w) (by omega) (by omega) rfl (by omega) fun H5 h5 m5 => chk (by omega) ⟨⟨w, _, by omega, by omega, by rw [Sort.swp_size]; exact s3, h5, m3.trans m5, e3⟩, by first | omega | (dsimp only; omega)⟩))))
      · have : t = 0 := by omega
        subst this
        exact k2 Hw d3 (by rw [← e3]; rfl) s3 h3 m3
    refine ⟨fun t Hw => ∃ t' : Nat, t = (t' : Nat) ∧ a + 1 ≤ t' ∧ t' ≤ b ∧ Hw = Hx ∧ Sort.scanSorted Sort.ltInt d1 b t' = i1, fun t _ => ((b : Int) - t).toNat, ⟨i, rfl, g1, g2, rfl, hi1.symm⟩, ?_⟩
    rintro t Hw ⟨t, rfl, u1, u2, rfl, u3⟩
    refine bcd (fun hle => ?_) fun hle => ?_
    · refine rdU h1 t rfl (by omega) (chk (by omega) (rdU h1 (t - 1) (by omega) (by omega) (cmp_Less_uint32.c ?_)))
      refine bcn (fun hc => ?_) fun hc => ?_
      · refine chk (by omega) ⟨⟨t + 1, by omega, by omega, by omega, by trivial, ?_⟩, by first | omega | (dsimp only; omega)⟩
        rw [← u3]; conv => rhs; rw [Sort.scanSorted, if_pos (by rw [hc]; simp; omega)]
      · have : i1 = t := by rw [← u3, Sort.scanSorted, if_neg (by rw [hc]; simp)]
        rw [← this]; exact k1 _ rfl (by omega) (by omega)
    · have : i1 = t := by rw [← u3, Sort.scanSorted, if_neg (by simp; omega)]
      rw [← this]; exact k1 _ rfl (by omega) (by omega)
  · have : j = 5 := by omega
    subst this
    have : (d1, false) = R := e1
    rw [← this] at hK
    exact hK _ h1 m1
theorem slices_breakPatternsOrdered_uint32.c {a b : Nat} {K : Hp → Prop} (h : A1 fU H p l d) (hab : a ≤ b) (hb : b ≤ d.size) (hl : l ≤ 1000000000)
    (hK : ∀ H' d', A1 fU H' p l d' → Mod (blkL p) H H' → Sort.PermIn a b d d' → K H') : slices_breakPatternsOrdered_uint32.C p l cc (a : Nat) (b : Nat) H K := by
  apply slices_breakPatternsOrdered_uint32.of
  have hl0 := h.1
  unfold slices_breakPatternsOrdered_uint32.F
  rw [show ((b : Nat) : Int) - ((a : Nat) : Int) = ((b - a : Nat) : Int) by omega]
  refine chk (by omega) (bcd (fun h8 => ?_) fun _ => hK H d h Mod.refl (Sort.permIn_refl d a b))
  rw [wrapU (b - a) (by omega)]
  intro q hq
  refine ST_upd rfl ?_
  have le1 : Le H (upd H q ([.int .u64 (0 : Int)].set 0 (.int .u64 ((b - a : Nat) : Int)))) := Le.upd hq
  have q1 : rd (upd H q ([.int .u64 (0 : Int)].set 0 (.int .u64 ((b - a : Nat) : Int)))) q 0 = some (.int .u64 ((b - a : Nat) : Int)) := by rw [rd_upd_self]; rfl
  have h1 := A1.le h le1
  have hqp : q ∉ blkL p := fun hx => A1.there h (by omega) hx hq
  have hn : ∀ b ∈ blkL p, b ∉ [q] := fun b hb hb' => by simp at hb'; subst hb'; exact hqp hb
  generalize upd H q ([.int .u64 (0 : Int)].set 0 (.int .u64 ((b - a : Nat) : Int))) = H1 at *
  refine slices_nextPowerOfTwo.c (by omega) ⟨by decide, ?_⟩
  have hpw := Sort.two_pow_bitsLen_le (n := b - a) (by omega)
  have hpos : 0 < 2 ^ Sort.bitsLen (b - a) := Nat.pow_pos (by decide)
  generalize 2 ^ Sort.bitsLen (b - a) = M at *
  rw [show (4 : Int) = ((4 : Nat) : Int) from rfl, tdivN]
  refine chk (by omega) (chk (by omega) (chk (by omega) (chk (by omega) ?_)))
  refine ⟨fun i Hx => ∃ (i' : Nat) (d1 : Array Int) (m : Int), i = (i' : Nat) ∧ a + (b - a) / 4 * 2 - 1 ≤ i' ∧ i' ≤ a + (b - a) / 4 * 2 + 2 ∧ d1.size = d.size ∧ A1 fU Hx p l d1 ∧ Mod (q :: blkL p) H Hx ∧ rd Hx q 0 = some (.int .u64 m) ∧ Sort.PermIn a b d d1, fun i _ => (((a + (b - a) / 4 * 2 + 3 : Nat) : Int) - i).toNat, ⟨a + (b - a) / 4 * 2 - 1, d, _, by omega, Nat.le_refl _, by omega, rfl, h1, le1.mod, q1, Sort.permIn_refl d a b⟩, ?_⟩
  rintro i Hx ⟨i, d1, m, rfl, g1, g2, gs, h1x, m1x, q1x, hpm⟩
  refine ⟨by decide, chk (by omega) (chk (by omega) (chk (by omega) (chk (by omega) (bcd (fun hle => ?_) fun hle => ?_))))⟩
  · refine slices_xorshift_Next.c q1x fun m2 H2 q2 mm => ?_
    have h2 := A1.mod h1x mm hn
    rw [show ((M : Nat) : Int) - 1 = ((M - 1 : Nat) : Int) by omega, wrapU (M - 1) (by omega)]
    obtain ⟨o, ho, hom⟩ := iand_bound m2 (M - 1) (by omega)
    rw [ho, wrapI o (by omega)]
    have m2x : Mod (q :: blkL p) H H2 := m1x.trans (mm.mono (by simp))
    have go : ∀ o' : Nat, o' < b - a → slices_breakPatternsOrdered_uint32.k1 Hx (fun i Hx => ∃ (i' : Nat) (d1 : Array Int) (m : Int), i = (i' : Nat) ∧ a + (b - a) / 4 * 2 - 1 ≤ i' ∧ i' ≤ a + (b - a) / 4 * 2 + 2 ∧ d1.size = d.size ∧ A1 fU Hx p l d1 ∧ Mod (q :: blkL p) H Hx ∧ rd Hx q 0 = some (.int .u64 m) ∧ Sort.PermIn a b d d1) (a : Nat) l p (i : Nat) (fun i _ => (((a + (b - a) / 4 * 2 + 3 : Nat) : Int) - i).toNat) (o' : Nat) H2 := by
      intro o' ho'
      unfold slices_breakPatternsOrdered_uint32.k1
      refine chk (by omega) (chk (by omega) (rdU h2 (a + o') (by omega) (by omega) (rdU h2 i rfl (by omega) (swU h2 (i := i) (j := a + o') (by omega) (by omega) rfl (by omega) fun H3 h3 m3 => chk (by omega) ⟨⟨i + 1, _, m2, by omega, by omega, by omega, by rw [Sort.swp_size]; exact gs, h3, m2x.trans (m3.mono fun x hx => List.mem_cons_of_mem _ hx), m3.rd hqp q2, ?_⟩, by first | omega | (dsimp only; omega)⟩))))
      exact Sort.permIn_trans _ _ _ a b hpm (Sort.swp_permIn d1 a b i (a + o') (by omega) (by omega) (by omega) (by omega) (by omega))
    refine bcd (fun hge => chk (by omega) ?_) fun hlt => go o (by omega)
    rw [show ((o : Nat) : Int) - ((b - a : Nat) : Int) = ((o - (b - a) : Nat) : Int) by omega]
    exact go _ (by omega)
  · exact hK Hx d1 h1x (fun b' hb' c' e => m1x b' (fun hx => by
      rcases List.mem_cons.1 hx with hx | hx
      · rw [hx, hq] at e; cases e
      · exact hb' hx) c' e) hpm
theorem slices_pdqsortOrdered_uint32.c : ∀ (n : Nat) {H : Hp} {d : Array Int} {a b : Nat} {lim : Int} {K : Hp → Prop}, b - a ≤ n → A1 fU H p l d → a ≤ b → b ≤ d.size → 0 ≤ lim → lim ≤ 1000 → Sort.Below Sort.ltInt a b d → l ≤ 1000000000 →
    (∀ H' d', A1 fU H' p l d' → Mod (blkL p) H H' → Sort.PermIn a b d d' → Sort.SortedIn Sort.ltInt a b d' → K H') → slices_pdqsortOrdered_uint32.C p l cc (a : Nat) (b : Nat) lim H K := by
  intro n
  induction n using Nat.strongRecOn with
  | _ n ih =>
  intro H d a0 b0 lim0 K hn h hab hb hl1 hl2 hB hl hK
  apply slices_pdqsortOrdered_uint32.of
  have hl0 := h.1
  refine ⟨fun a b lim _ _ Hx => ∃ (a' b' : Nat) (d1 : Array Int), a = (a' : Nat) ∧ b = (b' : Nat) ∧ a0 ≤ a' ∧ a' ≤ b' ∧ b' ≤ b0 ∧ 0 ≤ lim ∧ lim ≤ 1000 ∧ d1.size = d.size ∧ A1 fU Hx p l d1 ∧ Mod (blkL p) H Hx ∧ Sort.Below Sort.ltInt a' b' d1 ∧ ∀ R, Sort.PermIn a' b' d1 R → Sort.SortedIn Sort.ltInt a' b' R → Sort.PermIn a0 b0 d R ∧ Sort.SortedIn Sort.ltInt a0 b0 R, fun a b _ _ _ _ => (b - a).toNat,
    ⟨a0, b0, d, rfl, rfl, Nat.le_refl _, hab, Nat.le_refl _, hl1, hl2, rfl, h, Mod.refl, hB, fun R h1 h2 => ⟨h1, h2⟩⟩, ?_⟩
  rintro a b lim wb wp Hx ⟨a, b, d1, rfl, rfl, g1, g2, g3, g4, g5, gs, h1, m1, hB1, hR⟩
  have fin : ∀ (Hy : Hp) (d' : Array Int), A1 fU Hy p l d' → Mod (blkL p) H Hy → Sort.PermIn a b d1 d' → Sort.SortedIn Sort.ltInt a b d' → K Hy := fun Hy d' hA hM hP hS => hK Hy d' hA hM (hR d' hP hS).1 (hR d' hP hS).2
  refine chk (by omega) (bcd (fun h12 => slices_insertionSortOrdered_uint32.c h1 g2 (by omega) hl fun H2 d2 h2 m2 hP hS => fin H2 d2 h2 (m1.trans m2) hP hS) fun h12 => ?_)
  refine bcd (fun h0 => slices_heapSortOrdered_uint32.c h1 g2 (by omega) hl fun H2 d2 h2 m2 hP hS => fin H2 d2 h2 (m1.trans m2) hP hS) fun h0 => ?_
  have k1 : ∀ (lim' : Int) (H2 : Hp) (d2 : Array Int), 0 ≤ lim' → lim' ≤ 1000 → A1 fU H2 p l d2 → Mod (blkL p) H H2 → Sort.PermIn a b d1 d2 → slices_pdqsortOrdered_uint32.k1 Hx (fun a b lim _ _ Hx => ∃ (a' b' : Nat) (d1 : Array Int), a = (a' : Nat) ∧ b = (b' : Nat) ∧ a0 ≤ a' ∧ a' ≤ b' ∧ b' ≤ b0 ∧ 0 ≤ lim ∧ lim ≤ 1000 ∧ d1.size = d.size ∧ A1 fU Hx p l d1 ∧ Mod (blkL p) H Hx ∧ Sort.Below Sort.ltInt a' b' d1 ∧ ∀ R, Sort.PermIn a' b' d1 R → Sort.SortedIn Sort.ltInt a' b' R → Sort.PermIn a0 b0 d R ∧ Sort.SortedIn Sort.ltInt a0 b0 R) K (a : Nat) (b : Nat) cc l p lim (fun a b _ _ _ _ => (b - a).toNat) wb wp ((b : Nat) - (a : Nat) : Int) lim' H2 := by
    intro lim' H2 d2 q1 q2 h2 m2 hP2
    have s2 : d2.size = d.size := hP2.1.trans gs
    unfold slices_pdqsortOrdered_uint32.k1
    -- the pivot
    have k3 : ∀ (pv : Nat) (H4 : Hp) (d4 : Array Int), a ≤ pv → pv < b → A1 fU H4 p l d4 → Mod (blkL p) H H4 → Sort.PermIn a b d1 d4 → slices_pdqsortOrdered_uint32.k3 Hx (fun a b lim _ _ Hx => ∃ (a' b' : Nat) (d1 : Array Int), a = (a' : Nat) ∧ b = (b' : Nat) ∧ a0 ≤ a' ∧ a' ≤ b' ∧ b' ≤ b0 ∧ 0 ≤ lim ∧ lim ≤ 1000 ∧ d1.size = d.size ∧ A1 fU Hx p l d1 ∧ Mod (blkL p) H Hx ∧ Sort.Below Sort.ltInt a' b' d1 ∧ ∀ R, Sort.PermIn a' b' d1 R → Sort.SortedIn Sort.ltInt a' b' R → Sort.PermIn a0 b0 d R ∧ Sort.SortedIn Sort.ltInt a0 b0 R) (a : Nat) (b : Nat) cc l p lim' lim (fun a b _ _ _ _ => (b - a).toNat) (pv : Nat) wb wp ((b : Nat) - (a : Nat) : Int) H4 := by
      intro pv H4 d4 w1 w2 h4 m4 hP4
      have s4 : d4.size = d.size := hP4.1.trans gs
      have hB4 : Sort.Below Sort.ltInt a b d4 := Sort.Below.perm hB1 (by omega) hP4
      have toR : ∀ R, Sort.PermIn a b d4 R ∧ Sort.SortedIn Sort.ltInt a b R → Sort.PermIn a0 b0 d R ∧ Sort.SortedIn Sort.ltInt a0 b0 R := fun R hh => hR R (Sort.permIn_trans _ _ _ a b hP4 hh.1) hh.2
      unfold slices_pdqsortOrdered_uint32.k3
      have k4 : ∀ Hy, Hy = H4 → slices_pdqsortOrdered_uint32.k4 Hx (fun a b lim _ _ Hx => ∃ (a' b' : Nat) (d1 : Array Int), a = (a' : Nat) ∧ b = (b' : Nat) ∧ a0 ≤ a' ∧ a' ≤ b' ∧ b' ≤ b0 ∧ 0 ≤ lim ∧ lim ≤ 1000 ∧ d1.size = d.size ∧ A1 fU Hx p l d1 ∧ Mod (blkL p) H Hx ∧ Sort.Below Sort.ltInt a' b' d1 ∧ ∀ R, Sort.PermIn a' b' d1 R → Sort.SortedIn Sort.ltInt a' b' R → Sort.PermIn a0 b0 d R ∧ Sort.SortedIn Sort.ltInt a0 b0 R) (a : Nat) (b : Nat) cc l p lim' lim (fun a b _ _ _ _ => (b - a).toNat) (pv : Nat) wb wp ((b : Nat) - (a : Nat) : Int) (a : Nat) Hy := by
        rintro Hy rfl
        unfold slices_pdqsortOrdered_uint32.k4
        refine slices_partitionOrdered_uint32.c h4 w1 w2 (by omega) hl fun H5 h5 m5 => ?_
        obtain ⟨⟨mid, ap, d5⟩, hpt⟩ : ∃ r, Sort.partition Sort.ltInt d4 a b pv = r := ⟨_, rfl⟩
        obtain ⟨z1, z2, z3, z4, z5, z6, z7⟩ := Sort.round_part Sort.swo_ltInt (Sort.partition_holds Sort.ltInt) w1 w2 (by omega) hB4 hpt
        rw [hpt] at h5 ⊢
        have m45 := m4.trans m5
        have s5 : d5.size = d.size := z3.trans s4
        simp only at h5 ⊢
        rw [show ((b : Nat) : Int) - ((a : Nat) : Int) = ((b - a : Nat) : Int) by omega, show (8 : Int) = ((8 : Nat) : Int) from rfl, tdivN]
        refine chk (by omega) (chk (by omega) ⟨by decide, chk (by omega) (bcd (fun hlt => ?_) fun hlt => chk (by omega) ?_)⟩)
        · refine ih (mid - a) (by omega) (Nat.le_refl _) h5 z1 (by omega) q1 q2 z4 hl fun H6 d6 h6 m6 hP6 hS6 => chk (by omega) ⟨⟨mid + 1, b, d6, by omega, rfl, by omega, by omega, g3, q1, q2, hP6.1.trans s5, h6, m45.trans m6, (z6 d6 hP6 hS6).1, fun R r1 r2 => toR R ((z6 d6 hP6 hS6).2 R r1 r2)⟩, by first | omega | (dsimp only; omega)⟩
        · rw [show ((mid : Nat) : Int) + 1 = ((mid + 1 : Nat) : Int) by omega]
          refine ih (b - (mid + 1)) (by omega) (Nat.le_refl _) h5 (by omega) (by omega) q1 q2 z5 hl fun H6 d6 h6 m6 hP6 hS6 => ⟨⟨a, mid, d6, rfl, rfl, g1, z1, by omega, q1, q2, hP6.1.trans s5, h6, m45.trans m6, (z7 d6 hP6 hS6).1, fun R r1 r2 => toR R ((z7 d6 hP6 hS6).2 R r1 r2)⟩, by first | omega | (dsimp only; omega)⟩
      refine bcd (fun ha0 => ?_) fun _ => k4 _ rfl
      refine chk (by omega) (rdU h4 (a - 1) (by omega) (by omega) (rdU h4 pv rfl (by omega) (cmp_Less_uint32.c ?_)))
      refine bcn (fun hc => ?_) fun _ => k4 _ rfl
      refine slices_partitionEqualOrdered_uint32.c h4 w1 w2 (by omega) hl fun H5 h5 m5 => ?_
      obtain ⟨⟨mid, d5⟩, hpt⟩ : ∃ r, Sort.partitionEqual Sort.ltInt d4 a b pv = r := ⟨_, rfl⟩
      obtain ⟨z1, z2, z3, z4, z5⟩ := Sort.round_eq Sort.swo_ltInt (Sort.partitionEqual_holds Sort.ltInt) (by omega) w1 w2 (by omega) hB4 hc hpt
      rw [hpt] at h5 ⊢
      exact ⟨⟨mid, b, d5, rfl, rfl, by omega, z2, g3, q1, q2, z3.trans s4, h5, m4.trans m5, z4, fun R r1 r2 => toR R (z5 R r1 r2)⟩, by first | omega | (dsimp only; omega)⟩
    have k2 : ∀ (pv : Nat) (t : Int) (H3 : Hp) (d3 : Array Int), a ≤ pv → pv < b → A1 fU H3 p l d3 → Mod (blkL p) H H3 → Sort.PermIn a b d1 d3 → slices_pdqsortOrdered_uint32.k2 Hx (fun a b lim _ _ Hx => ∃ (a' b' : Nat) (d1 : Array Int), a = (a' : Nat) ∧ b = (b' : Nat) ∧ a0 ≤ a' ∧ a' ≤ b' ∧ b' ≤ b0 ∧ 0 ≤ lim ∧ lim ≤ 1000 ∧ d1.size = d.size ∧ A1 fU Hx p l d1 ∧ Mod (blkL p) H Hx ∧ Sort.Below Sort.ltInt a' b' d1 ∧ ∀ R, Sort.PermIn a' b' d1 R → Sort.SortedIn Sort.ltInt a' b' R → Sort.PermIn a0 b0 d R ∧ Sort.SortedIn Sort.ltInt a0 b0 R) K (a : Nat) (b : Nat) cc l p lim' lim (fun a b _ _ _ _ => (b - a).toNat) wb wp ((b : Nat) - (a : Nat) : Int) (pv : Nat) t H3 := by
      intro pv t H3 d3 w1 w2 h3 m3 hP3
      unfold slices_pdqsortOrdered_uint32.k2
      refine bc_i (fun _ => bc_i (fun _ => bcd (fun _ => ?_) fun _ => k3 pv H3 d3 w1 w2 h3 m3 hP3) fun _ => k3 pv H3 d3 w1 w2 h3 m3 hP3) fun _ => k3 pv H3 d3 w1 w2 h3 m3 hP3
      have s3 : d3.size = d.size := hP3.1.trans gs
      have hB3 : Sort.Below Sort.ltInt a b d3 := Sort.Below.perm hB1 (by omega) hP3
      obtain ⟨hp1, hp2⟩ := Sort.partialInsertionSort_holds (lt := Sort.ltInt) Sort.swo_ltInt d3 a b (by omega) (by omega) hB3
      refine slices_partialInsertionSortOrdered_uint32.c h3 (by omega) (by omega) hl fun H4 h4 m4 => ?_
      refine bc_i (fun hc => fin H4 _ h4 (m3.trans m4) (Sort.permIn_trans _ _ _ a b hP3 hp1) (hp2 hc)) fun _ => k3 pv H4 _ w1 w2 h4 (m3.trans m4) (Sort.permIn_trans _ _ _ a b hP3 hp1)
    refine slices_choosePivotOrdered_uint32.c h2 (by omega) (by omega) hl fun pv t H3 w1 w2 le3 => ?_
    have h3 := A1.le h2 le3
    have m3 := m2.andLe le3
    refine bcd (fun _ => ?_) fun _ => k2 pv t H3 d2 w1 w2 h3 m3 hP2
    refine slices_reverseRangeOrdered_uint32.c h3 (by omega) (by omega) hl fun H4 d4 h4 m4 hP4 => chk (by omega) (chk (by omega) (chk (by omega) ?_))
    rw [show ((b : Nat) : Int) - 1 - (((pv : Nat) : Int) - ((a : Nat) : Int)) = ((b - 1 - (pv - a) : Nat) : Int) by omega]
    exact k2 _ 1 H4 d4 (by omega) (by omega) h4 (m3.trans m4) (Sort.permIn_trans _ _ _ a b hP2 hP4)
  refine bcn (fun _ => ?_) fun _ => k1 lim Hx d1 g4 g5 h1 m1 (Sort.permIn_refl d1 a b)
  exact slices_breakPatternsOrdered_uint32.c h1 g2 (by omega) hl fun H2 d2 h2 m2 hP2 => chk (by omega) (k1 _ H2 d2 (by omega) (by omega) h2 (m1.trans m2) hP2)
end
end Go.Proofs.Ytlpdenhcaipppaa
namespace Go.Proofs.Ytlpdenhcaipppaa
open Go.V
/-! ### strings.Builder -/
/-- Block b is a builder that holds l, in buffer p (room c, k bytes frozen); none of it was there in A. -/
structure Bd (A H : Hp) (b : Nat) (p : Option Addr) (cc k : Nat) (l : List UInt8) : Prop where
  fr : A b = none
  ap : b ∉ blkL p
  hd : ∃ pa : Option Addr, (pa = none ∨ pa = some ⟨b, 0, none⟩) ∧ H b = some ([.pointer pa, .slice p l.length cc] ++ [tyM ty_strings_Builder 0 0])
  bb : BB ty_uint8 A H p cc k l
section
variable {A A' H H' : Hp} {b : Nat} {p : Option Addr} {cc k : Nat} {l : List UInt8} {O : List Nat}
theorem Bd.new {A H : Hp} {b : Nat} (hA : A b = none) (hH : H b = some ([.pointer none, .slice none 0 0] ++ [tyM ty_strings_Builder 0 0])) : Bd A H b none 0 0 [] :=
  ⟨hA, by simp [blkL], ⟨none, .inl rfl, hH⟩, BB.none⟩
theorem Bd.there (h : Bd A H b p cc k l) : ∀ x ∈ b :: blkL p, H x ≠ none := by
  intro x hx
  rcases List.mem_cons.1 hx with rfl | hx
  · obtain ⟨pa, _, h1⟩ := h.hd; rw [h1]; intro e; cases e
  · exact h.bb.there x hx
theorem Bd.frs (h : Bd A H b p cc k l) : ∀ x ∈ b :: blkL p, A x = none := by
  intro x hx
  rcases List.mem_cons.1 hx with rfl | hx
  · exact h.fr
  · exact h.bb.fr x hx
theorem Bd.mod (h : Bd A H b p cc k l) (hm : Mod O H H') (hO : ∀ x ∈ b :: blkL p, x ∉ O) : Bd A H' b p cc k l := by
  obtain ⟨pa, h1, h2⟩ := h.hd
  exact ⟨h.fr, h.ap, ⟨pa, h1, hm b (hO b (by simp)) _ h2⟩, h.bb.mod hm fun x hx => hO x (by simp [hx])⟩
theorem Bd.le (h : Bd A H b p cc k l) (hm : Le H H') : Bd A H' b p cc k l := h.mod (O := []) hm.mod (by simp)
theorem Bd.base (h : Bd A H b p cc k l) (hA : ∀ x ∈ b :: blkL p, A' x = none) : Bd A' H b p cc k l :=
  ⟨hA b (by simp), h.ap, h.hd, h.bb.base fun x hx => hA x (by simp [hx])⟩
theorem Bd.r1 (h : Bd A H b p cc k l) : rd H b 1 = some (.slice p l.length cc) := by
  obtain ⟨pa, _, h2⟩ := h.hd
  unfold rd; rw [h2]; rfl
end

theorem internal_abi_NoEscape.c {x : Option Addr} {H : Hp} {K : Option Addr → Hp → Prop} (hK : K x H) : internal_abi_NoEscape.C x H K :=
  callX (fn := (prog.funcs[internal_abi_NoEscape.num]?).getD default) (e := Extern.AbiNoEscape.same) (by kernel_rfl) (by kernel_rfl) (by kernel_rfl) (by kernel_rfl) (by kernel_rfl) fun w hw => ⟨.pointer x, w, rfl, by subst hw; exact hK, Ge.refl _ _⟩

section
variable {A H : Hp} {b : Nat} {p : Option Addr} {cc k : Nat} {l : List UInt8}
theorem strings_Builder_copyCheck.c {K : Hp → Prop} (hB : Bd A H b p cc k l) (hK : ∀ H', Bd A H' b p cc k l → Mod [b] H H' → K H') : strings_Builder_copyCheck.C (some ⟨b, 0, none⟩) H K := by
  apply strings_Builder_copyCheck.of
  obtain ⟨pa, hpa, hH⟩ := hB.hd
  have r0 : rd H b 0 = some (.pointer pa) := by unfold rd; rw [hH]; rfl
  refine nil (ldP_i r0 ?_)
  rcases hpa with rfl | rfl
  · refine bcd (fun _ => ?_) (fun h => absurd rfl h)
    refine cnv_to (t := ty_strings_Builder) (s := 1) (by kernel_rfl) (by kernel_rfl) (by kernel_rfl) r0 ?_
    refine internal_abi_NoEscape.c ?_
    refine cnv_from (u := ty_strings_Builder) (s := 2) (X := [.pointer none, .slice p l.length cc]) (by kernel_rfl) (by kernel_rfl) (by kernel_rfl) hH (show liesAt prog prog.depth ty_strings_Builder (2 / prog.cellsOf ty_strings_Builder) 0 ty_strings_Builder 1 = true by kernel_rfl) ?_
    refine nil (st r0 (hK _ ⟨hB.fr, hB.ap, ⟨some ⟨b, 0, none⟩, .inr rfl, ?_⟩, hB.bb.mod (O := [b]) (Mod.refl.wr (.inl (by simp))) fun x hx hx' => ?_⟩ (Mod.refl.wr (.inl (by simp)))))
    · unfold wr; rw [if_pos rfl, hH]; rfl
    · simp at hx'; subst hx'; exact hB.ap hx
  · refine bcd (fun h => by cases h) (fun _ => ?_)
    refine nil (ldP_i r0 ?_)
    refine peq_ne (te := ty_strings_Builder) (s := 2) (by kernel_rfl) (by kernel_rfl) ?_
    exact bcF (hK H hB Mod.refl)

/-- The buffer's head is laid anew. -/
theorem Bd.put {p' : Option Addr} {c' k' : Nat} {l' : List UInt8} {H1 : Hp} (hB : Bd A H b p cc k l) (hb : H1 b = H b) (hBB : BB ty_uint8 A H1 p' c' k' l') (hap : b ∉ blkL p') : Bd A (wr H1 b 1 (.slice p' l'.length c')) b p' c' k' l' := by
  obtain ⟨pa, h1, h2⟩ := hB.hd
  refine ⟨hB.fr, hap, ⟨pa, h1, ?_⟩, hBB.mod (O := [b]) (Mod.refl.wr (.inl (by simp))) fun x hx hx' => ?_⟩
  · unfold wr; rw [if_pos rfl, hb, h2]; rfl
  · simp at hx'; subst hx'; exact hap hx
theorem strings_Builder_WriteString.c {s : ByteArray} {K : Int → Value → Hp → Prop} (hB : Bd A H b p cc k l) (hA : Le A H) (hk : k = 0 ∨ l.length + s.size ≤ cc) (hfit : l.length + s.size ≤ 140737488355328)
    (hK : ∀ p' c' k' H', Bd A H' b p' c' k' (l ++ s.data.toList) → Le A H' → Mod (b :: blkL p) H H' → (p' = p ∨ New H p') → (k' = k ∧ p' = p ∧ c' = cc ∨ k' = 0 ∧ cc < l.length + s.size) → K (s.size : Nat) .nilIface H') : strings_Builder_WriteString.C (some ⟨b, 0, none⟩) s H K := by
  have hsz : s.data.toList.length = s.size := by cases s; rfl
  apply strings_Builder_WriteString.of
  refine strings_Builder_copyCheck.c hB fun H1 hB1 m1 => ?_
  have hA1 : Le A H1 := m1.le hA (by simpa using hB.fr)
  refine nil (ldL_i hB1.r1 ?_)
  refine hB1.bb.app (new := s.data.toList) hA1 rfl rfl rfl rfl (src_str s) (by rw [hsz]; exact hk) (by rw [hsz]; exact hfit) fun p' c' k' H2 hBB hA2 m2 hp hch => ?_
  have hbq : b ∉ blkL p := hB.ap
  have hb2 : H2 b = H1 b := by
    obtain ⟨pa, _, h2⟩ := hB1.hd
    rw [h2]; exact m2 b hbq _ h2
  have hap : b ∉ blkL p' := by
    rcases hp with rfl | hp
    · exact hbq
    · rcases hBB.2.2 with ⟨rfl, _⟩ | ⟨q, _, rfl, _⟩
      · simp [blkL]
      · intro h
        simp [blkL] at h
        exact hB1.there b (by simp) (by have := hp q 0 rfl; rw [← h] at this; exact this)
  have hB2 := hB1.put hb2 hBB hap
  have r : rd H2 b 1 = some (.slice p l.length cc) := by rw [rd_eq hb2]; exact hB1.r1
  refine nil (st r ?_)
  rw [show l.length + s.data.toList.length = (l ++ s.data.toList).length by simp]
  refine hK p' c' k' _ hB2 (hA2.wr hB.fr) ((m1.mono (by simp)).trans ((m2.mono (by simp; intro x hx; exact .inr hx)).wr (.inl (by simp)))) ?_ (by rw [hsz] at hch; exact hch)
  rcases hp with hp | hp
  · exact .inl hp
  · refine .inr fun b' o e => ?_
    have := hp b' o e
    cases hh : H b' with
    | none => rfl
    | some d =>
      by_cases hbb : b' = b
      · subst hbb; exact absurd this (hB1.there b' (by simp))
      · rw [m1 b' (by simpa using hbb) _ hh] at this; cases this
theorem strings_Builder_String.c {K : ByteArray → Hp → Prop} (hB : Bd A H b p cc k l) (hA : Le A H) (hlen : l.length ≤ 9223372036854775807)
    (hK : ∀ H', Bd A H' b p cc l.length l → Le A H' → Mod (blkL p) H H' → K ⟨⟨l⟩⟩ H') : strings_Builder_String.C (some ⟨b, 0, none⟩) H K := by
  apply strings_Builder_String.of
  refine nil (ldL_i hB.r1 (nil (ldL_i hB.r1 ?_)))
  refine blt_data (fun a ha => ?_) ?_
  · rcases hB.bb.2.2 with ⟨h, _⟩ | ⟨q, r, _, _, h, _⟩
    · rw [h] at ha; cases ha
    · omega
  refine ⟨by rw [hB.r1], ?_⟩
  refine blt_str (e := ty_uint8) (by kernel_rfl) (by kernel_rfl) (by kernel_rfl) hB.bb hlen fun H' hBB hm => ?_
  obtain ⟨pa, h1, h2⟩ := hB.hd
  exact hK H' ⟨hB.fr, hB.ap, ⟨pa, h1, hm b hB.ap _ h2⟩, hBB⟩ (hm.le hA hB.bb.fr) hm
end

section
variable {A H : Hp} {b : Nat}
end
end Go.Proofs.Ytlpdenhcaipppaa
