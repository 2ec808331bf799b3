/- Contracts and plain laws that the claim rests on, for every input: no condition. -/
import Derived.Test.YtganockeifkecaaDoorZ3
namespace Go.Proofs.YtganockeifkecaaDoor
open Go.V
-- slices.partialInsertionSortCmpFunc[cento/api.Edge] (72)
def slices_partialInsertionSortCmpFunc_api_Edge.ann : Ann := { loops := [(0, [(9, .one (.int .i64)), (10, .one (.int .i64))]), (2, [(9, .one (.int .i64))]), (4, [(11, .one (.int .i64))]), (6, [(12, .one (.int .i64))])], pars := [] }
def slices_partialInsertionSortCmpFunc_api_Edge.k2 (Hx10 : Hp) (Iq11 : Int → Int → Hp → Prop) (bq5 : Int) (cmp6 : Value) (datal2 : Nat) (datap1 : Option Addr) (i36 : Int) (i8 : Int) (j9 : Int) (mu12 : Int → Int → Hp → Nat) (Hx94 : Hp) : Prop :=
  CHK .i64 (bq5 - i36) fun x95 => bc ((decide ((2 : Int) ≤ x95))) (CHK .i64 (i36 + (1 : Int)) fun x96 => ∃ (Iq99 : Int → Hp → Prop) (mu100 : Int → Hp → Nat), Iq99 x96 Hx94 ∧ ∀ (j97 : Int) (Hx98 : Hp), Iq99 j97 Hx98 → bc ((decide (j97 < bq5))) (IDX j97 datal2 fun k101 => NIL datap1 fun bq102 oq103 => ldI .u32 (rd Hx98 bq102 (oq103 + (k101 * 4))) fun x104 => ldI .i64 (rd Hx98 bq102 ((oq103 + (k101 * 4)) + 1)) fun x105 => ldI .u32 (rd Hx98 bq102 (((oq103 + (k101 * 4)) + 1) + 1)) fun x106 => ldI .i64 (rd Hx98 bq102 ((((oq103 + (k101 * 4)) + 1) + 1) + 1)) fun x107 => CHK .i64 (j97 - (1 : Int)) fun x108 => IDX x108 datal2 fun k109 => NIL datap1 fun bq110 oq111 => ldI .u32 (rd Hx98 bq110 (oq111 + (k109 * 4))) fun x112 => ldI .i64 (rd Hx98 bq110 ((oq111 + (k109 * 4)) + 1)) fun x113 => ldI .u32 (rd Hx98 bq110 (((oq111 + (k109 * 4)) + 1) + 1)) fun x114 => ldI .i64 (rd Hx98 bq110 ((((oq111 + (k109 * 4)) + 1) + 1) + 1)) fun x115 => CallV prog cmp6 [.agg ⟨[.int .u32 x104, .int .i64 x105, .int .u32 x106, .int .i64 x107]⟩, .agg ⟨[.int .u32 x112, .int .i64 x113, .int .u32 x114, .int .i64 x115]⟩] Hx98 fun v Hx117 => liftI .i64 v fun r116 => bc ((!(decide (r116 < (0 : Int))))) (CHK .i64 (j9 + (1 : Int)) fun x118 => Iq11 i36 x118 Hx117 ∧ mu12 i36 x118 Hx117 < mu12 i8 j9 Hx10) (CHK .i64 (j97 - (1 : Int)) fun x121 => CHK .i64 (j97 - (1 : Int)) fun x122 => IDX x122 datal2 fun k123 => NIL datap1 fun bq124 oq125 => ldI .u32 (rd Hx117 bq124 (oq125 + (k123 * 4))) fun x126 => ldI .i64 (rd Hx117 bq124 ((oq125 + (k123 * 4)) + 1)) fun x127 => ldI .u32 (rd Hx117 bq124 (((oq125 + (k123 * 4)) + 1) + 1)) fun x128 => ldI .i64 (rd Hx117 bq124 ((((oq125 + (k123 * 4)) + 1) + 1) + 1)) fun x129 => IDX j97 datal2 fun k130 => NIL datap1 fun bq131 oq132 => ldI .u32 (rd Hx117 bq131 (oq132 + (k130 * 4))) fun x133 => ldI .i64 (rd Hx117 bq131 ((oq132 + (k130 * 4)) + 1)) fun x134 => ldI .u32 (rd Hx117 bq131 (((oq132 + (k130 * 4)) + 1) + 1)) fun x135 => ldI .i64 (rd Hx117 bq131 ((((oq132 + (k130 * 4)) + 1) + 1) + 1)) fun x136 => IDX j97 datal2 fun k137 => NIL datap1 fun bq138 oq139 => ST Hx117 bq138 (oq139 + (k137 * 4)) (.int .u32 x126) fun Hx140 => ST Hx140 bq138 ((oq139 + (k137 * 4)) + 1) (.int .i64 x127) fun Hx141 => ST Hx141 bq138 ((oq139 + (k137 * 4)) + 2) (.int .u32 x128) fun Hx142 => ST Hx142 bq138 ((oq139 + (k137 * 4)) + 3) (.int .i64 x129) fun Hx143 => IDX x121 datal2 fun k144 => NIL datap1 fun bq145 oq146 => ST Hx143 bq145 (oq146 + (k144 * 4)) (.int .u32 x133) fun Hx147 => ST Hx147 bq145 ((oq146 + (k144 * 4)) + 1) (.int .i64 x134) fun Hx148 => ST Hx148 bq145 ((oq146 + (k144 * 4)) + 2) (.int .u32 x135) fun Hx149 => ST Hx149 bq145 ((oq146 + (k144 * 4)) + 3) (.int .i64 x136) fun Hx150 => CHK .i64 (j97 + (1 : Int)) fun x151 => Iq99 x151 Hx150 ∧ mu100 x151 Hx150 < mu100 j97 Hx98)) (CHK .i64 (j9 + (1 : Int)) fun x153 => Iq11 i36 x153 Hx98 ∧ mu12 i36 x153 Hx98 < mu12 i8 j9 Hx10)) (CHK .i64 (j9 + (1 : Int)) fun x156 => Iq11 i36 x156 Hx94 ∧ mu12 i36 x156 Hx94 < mu12 i8 j9 Hx10)
def slices_partialInsertionSortCmpFunc_api_Edge.k1 (Hx10 : Hp) (Iq11 : Int → Int → Hp → Prop) (K : Bool → Hp → Prop) (a4 : Int) (bq5 : Int) (cmp6 : Value) (datal2 : Nat) (datap1 : Option Addr) (i8 : Int) (j9 : Int) (mu12 : Int → Int → Hp → Nat) (i36 : Int) (Hx37 : Hp) : Prop :=
  bc ((decide (i36 = bq5))) (K true Hx37) (CHK .i64 (bq5 - a4) fun x39 => bc ((decide (x39 < (50 : Int)))) (K false Hx37) (CHK .i64 (i36 - (1 : Int)) fun x41 => CHK .i64 (i36 - (1 : Int)) fun x42 => IDX x42 datal2 fun k43 => NIL datap1 fun bq44 oq45 => ldI .u32 (rd Hx37 bq44 (oq45 + (k43 * 4))) fun x46 => ldI .i64 (rd Hx37 bq44 ((oq45 + (k43 * 4)) + 1)) fun x47 => ldI .u32 (rd Hx37 bq44 (((oq45 + (k43 * 4)) + 1) + 1)) fun x48 => ldI .i64 (rd Hx37 bq44 ((((oq45 + (k43 * 4)) + 1) + 1) + 1)) fun x49 => IDX i36 datal2 fun k50 => NIL datap1 fun bq51 oq52 => ldI .u32 (rd Hx37 bq51 (oq52 + (k50 * 4))) fun x53 => ldI .i64 (rd Hx37 bq51 ((oq52 + (k50 * 4)) + 1)) fun x54 => ldI .u32 (rd Hx37 bq51 (((oq52 + (k50 * 4)) + 1) + 1)) fun x55 => ldI .i64 (rd Hx37 bq51 ((((oq52 + (k50 * 4)) + 1) + 1) + 1)) fun x56 => IDX i36 datal2 fun k57 => NIL datap1 fun bq58 oq59 => ST Hx37 bq58 (oq59 + (k57 * 4)) (.int .u32 x46) fun Hx60 => ST Hx60 bq58 ((oq59 + (k57 * 4)) + 1) (.int .i64 x47) fun Hx61 => ST Hx61 bq58 ((oq59 + (k57 * 4)) + 2) (.int .u32 x48) fun Hx62 => ST Hx62 bq58 ((oq59 + (k57 * 4)) + 3) (.int .i64 x49) fun Hx63 => IDX x41 datal2 fun k64 => NIL datap1 fun bq65 oq66 => ST Hx63 bq65 (oq66 + (k64 * 4)) (.int .u32 x53) fun Hx67 => ST Hx67 bq65 ((oq66 + (k64 * 4)) + 1) (.int .i64 x54) fun Hx68 => ST Hx68 bq65 ((oq66 + (k64 * 4)) + 2) (.int .u32 x55) fun Hx69 => ST Hx69 bq65 ((oq66 + (k64 * 4)) + 3) (.int .i64 x56) fun Hx70 => CHK .i64 (i36 - a4) fun x71 => bc ((decide ((2 : Int) ≤ x71))) (CHK .i64 (i36 - (1 : Int)) fun x72 => ∃ (Iq75 : Int → Hp → Prop) (mu76 : Int → Hp → Nat), Iq75 x72 Hx70 ∧ ∀ (j73 : Int) (Hx74 : Hp), Iq75 j73 Hx74 → bc ((decide ((1 : Int) ≤ j73))) (IDX j73 datal2 fun k77 => NIL datap1 fun bq78 oq79 => ldI .u32 (rd Hx74 bq78 (oq79 + (k77 * 4))) fun x80 => ldI .i64 (rd Hx74 bq78 ((oq79 + (k77 * 4)) + 1)) fun x81 => ldI .u32 (rd Hx74 bq78 (((oq79 + (k77 * 4)) + 1) + 1)) fun x82 => ldI .i64 (rd Hx74 bq78 ((((oq79 + (k77 * 4)) + 1) + 1) + 1)) fun x83 => CHK .i64 (j73 - (1 : Int)) fun x84 => IDX x84 datal2 fun k85 => NIL datap1 fun bq86 oq87 => ldI .u32 (rd Hx74 bq86 (oq87 + (k85 * 4))) fun x88 => ldI .i64 (rd Hx74 bq86 ((oq87 + (k85 * 4)) + 1)) fun x89 => ldI .u32 (rd Hx74 bq86 (((oq87 + (k85 * 4)) + 1) + 1)) fun x90 => ldI .i64 (rd Hx74 bq86 ((((oq87 + (k85 * 4)) + 1) + 1) + 1)) fun x91 => CallV prog cmp6 [.agg ⟨[.int .u32 x80, .int .i64 x81, .int .u32 x82, .int .i64 x83]⟩, .agg ⟨[.int .u32 x88, .int .i64 x89, .int .u32 x90, .int .i64 x91]⟩] Hx74 fun v Hx93 => liftI .i64 v fun r92 => bc ((!(decide (r92 < (0 : Int))))) (slices_partialInsertionSortCmpFunc_api_Edge.k2 Hx10 Iq11 bq5 cmp6 datal2 datap1 i36 i8 j9 mu12 Hx93) (CHK .i64 (j73 - (1 : Int)) fun x159 => CHK .i64 (j73 - (1 : Int)) fun x160 => IDX x160 datal2 fun k161 => NIL datap1 fun bq162 oq163 => ldI .u32 (rd Hx93 bq162 (oq163 + (k161 * 4))) fun x164 => ldI .i64 (rd Hx93 bq162 ((oq163 + (k161 * 4)) + 1)) fun x165 => ldI .u32 (rd Hx93 bq162 (((oq163 + (k161 * 4)) + 1) + 1)) fun x166 => ldI .i64 (rd Hx93 bq162 ((((oq163 + (k161 * 4)) + 1) + 1) + 1)) fun x167 => IDX j73 datal2 fun k168 => NIL datap1 fun bq169 oq170 => ldI .u32 (rd Hx93 bq169 (oq170 + (k168 * 4))) fun x171 => ldI .i64 (rd Hx93 bq169 ((oq170 + (k168 * 4)) + 1)) fun x172 => ldI .u32 (rd Hx93 bq169 (((oq170 + (k168 * 4)) + 1) + 1)) fun x173 => ldI .i64 (rd Hx93 bq169 ((((oq170 + (k168 * 4)) + 1) + 1) + 1)) fun x174 => IDX j73 datal2 fun k175 => NIL datap1 fun bq176 oq177 => ST Hx93 bq176 (oq177 + (k175 * 4)) (.int .u32 x164) fun Hx178 => ST Hx178 bq176 ((oq177 + (k175 * 4)) + 1) (.int .i64 x165) fun Hx179 => ST Hx179 bq176 ((oq177 + (k175 * 4)) + 2) (.int .u32 x166) fun Hx180 => ST Hx180 bq176 ((oq177 + (k175 * 4)) + 3) (.int .i64 x167) fun Hx181 => IDX x159 datal2 fun k182 => NIL datap1 fun bq183 oq184 => ST Hx181 bq183 (oq184 + (k182 * 4)) (.int .u32 x171) fun Hx185 => ST Hx185 bq183 ((oq184 + (k182 * 4)) + 1) (.int .i64 x172) fun Hx186 => ST Hx186 bq183 ((oq184 + (k182 * 4)) + 2) (.int .u32 x173) fun Hx187 => ST Hx187 bq183 ((oq184 + (k182 * 4)) + 3) (.int .i64 x174) fun Hx188 => CHK .i64 (j73 - (1 : Int)) fun x189 => Iq75 x189 Hx188 ∧ mu76 x189 Hx188 < mu76 j73 Hx74)) (slices_partialInsertionSortCmpFunc_api_Edge.k2 Hx10 Iq11 bq5 cmp6 datal2 datap1 i36 i8 j9 mu12 Hx74)) (slices_partialInsertionSortCmpFunc_api_Edge.k2 Hx10 Iq11 bq5 cmp6 datal2 datap1 i36 i8 j9 mu12 Hx70)))
def slices_partialInsertionSortCmpFunc_api_Edge.F (datap1 : Option Addr) (datal2 : Nat) (_datac3 : Nat) (a4 : Int) (bq5 : Int) (cmp6 : Value) (H : Hp) (K : Bool → Hp → Prop) : Prop :=
  CHK .i64 (a4 + (1 : Int)) fun x7 => ∃ (Iq11 : Int → Int → Hp → Prop) (mu12 : Int → Int → Hp → Nat), Iq11 x7 (0 : Int) H ∧ ∀ (i8 : Int) (j9 : Int) (Hx10 : Hp), Iq11 i8 j9 Hx10 → bc ((decide (j9 < (5 : Int)))) (∃ (Iq15 : Int → Hp → Prop) (mu16 : Int → Hp → Nat), Iq15 i8 Hx10 ∧ ∀ (i13 : Int) (Hx14 : Hp), Iq15 i13 Hx14 → bc ((decide (i13 < bq5))) (IDX i13 datal2 fun k17 => NIL datap1 fun bq18 oq19 => ldI .u32 (rd Hx14 bq18 (oq19 + (k17 * 4))) fun x20 => ldI .i64 (rd Hx14 bq18 ((oq19 + (k17 * 4)) + 1)) fun x21 => ldI .u32 (rd Hx14 bq18 (((oq19 + (k17 * 4)) + 1) + 1)) fun x22 => ldI .i64 (rd Hx14 bq18 ((((oq19 + (k17 * 4)) + 1) + 1) + 1)) fun x23 => CHK .i64 (i13 - (1 : Int)) fun x24 => IDX x24 datal2 fun k25 => NIL datap1 fun bq26 oq27 => ldI .u32 (rd Hx14 bq26 (oq27 + (k25 * 4))) fun x28 => ldI .i64 (rd Hx14 bq26 ((oq27 + (k25 * 4)) + 1)) fun x29 => ldI .u32 (rd Hx14 bq26 (((oq27 + (k25 * 4)) + 1) + 1)) fun x30 => ldI .i64 (rd Hx14 bq26 ((((oq27 + (k25 * 4)) + 1) + 1) + 1)) fun x31 => CallV prog cmp6 [.agg ⟨[.int .u32 x20, .int .i64 x21, .int .u32 x22, .int .i64 x23]⟩, .agg ⟨[.int .u32 x28, .int .i64 x29, .int .u32 x30, .int .i64 x31]⟩] Hx14 fun v Hx33 => liftI .i64 v fun r32 => bc ((!(decide (r32 < (0 : Int))))) (CHK .i64 (i13 + (1 : Int)) fun x34 => Iq15 x34 Hx33 ∧ mu16 x34 Hx33 < mu16 i13 Hx14) (slices_partialInsertionSortCmpFunc_api_Edge.k1 Hx10 Iq11 K a4 bq5 cmp6 datal2 datap1 i8 j9 mu12 i13 Hx33)) (slices_partialInsertionSortCmpFunc_api_Edge.k1 Hx10 Iq11 K a4 bq5 cmp6 datal2 datap1 i8 j9 mu12 i13 Hx14)) (K false Hx10)
theorem slices_partialInsertionSortCmpFunc_api_Edge.vc (datap1 : Option Addr) (datal2 : Nat) (datac3 : Nat) (a4 : Int) (bq5 : Int) (cmp6 : Value) (H : Hp) (K : Bool → Hp → Prop) : vcFun prog tab slices_partialInsertionSortCmpFunc_api_Edge.ann none Tryd.f72 (List.map AV.v [.slice datap1 datal2 datac3, .int .i64 a4, .int .i64 bq5, cmp6]) H (fun v H2 _ => liftB v fun r194 => K r194 H2) = slices_partialInsertionSortCmpFunc_api_Edge.F datap1 datal2 datac3 a4 bq5 cmp6 H K := by kernel_rfl
theorem slices_partialInsertionSortCmpFunc_api_Edge.of (datap1 : Option Addr) (datal2 : Nat) (datac3 : Nat) (a4 : Int) (bq5 : Int) (cmp6 : Value) {H : Hp} {K : Bool → Hp → Prop} (h : slices_partialInsertionSortCmpFunc_api_Edge.F datap1 datal2 datac3 a4 bq5 cmp6 H K) : slices_partialInsertionSortCmpFunc_api_Edge.C datap1 datal2 datac3 a4 bq5 cmp6 H K := CallH_of_vc mix tabOk Tryd.func72 (by kernel_rfl) ((slices_partialInsertionSortCmpFunc_api_Edge.vc datap1 datal2 datac3 a4 bq5 cmp6 H K).mpr h)
-- slices.partitionEqualCmpFunc[cento/api.Edge] (73)
def slices_partitionEqualCmpFunc_api_Edge.ann : Ann := { loops := [(0, [(11, .one (.int .i64)), (12, .one (.int .i64))]), (2, [(11, .one (.int .i64))]), (4, [(12, .one (.int .i64))])], pars := [] }
def slices_partitionEqualCmpFunc_api_Edge.k2 (Hx40 : Hp) (Iq41 : Int → Int → Hp → Prop) (K : Int → Hp → Prop) (datal2 : Nat) (datap1 : Option Addr) (i38 : Int) (i65 : Int) (j39 : Int) (mu42 : Int → Int → Hp → Nat) (j89 : Int) (Hx90 : Hp) : Prop :=
  bc ((decide (j89 < i65))) (K i65 Hx90) (IDX j89 datal2 fun k92 => NIL datap1 fun bq93 oq94 => ldI .u32 (rd Hx90 bq93 (oq94 + (k92 * 4))) fun x95 => ldI .i64 (rd Hx90 bq93 ((oq94 + (k92 * 4)) + 1)) fun x96 => ldI .u32 (rd Hx90 bq93 (((oq94 + (k92 * 4)) + 1) + 1)) fun x97 => ldI .i64 (rd Hx90 bq93 ((((oq94 + (k92 * 4)) + 1) + 1) + 1)) fun x98 => IDX i65 datal2 fun k99 => NIL datap1 fun bq100 oq101 => ldI .u32 (rd Hx90 bq100 (oq101 + (k99 * 4))) fun x102 => ldI .i64 (rd Hx90 bq100 ((oq101 + (k99 * 4)) + 1)) fun x103 => ldI .u32 (rd Hx90 bq100 (((oq101 + (k99 * 4)) + 1) + 1)) fun x104 => ldI .i64 (rd Hx90 bq100 ((((oq101 + (k99 * 4)) + 1) + 1) + 1)) fun x105 => IDX i65 datal2 fun k106 => NIL datap1 fun bq107 oq108 => ST Hx90 bq107 (oq108 + (k106 * 4)) (.int .u32 x95) fun Hx109 => ST Hx109 bq107 ((oq108 + (k106 * 4)) + 1) (.int .i64 x96) fun Hx110 => ST Hx110 bq107 ((oq108 + (k106 * 4)) + 2) (.int .u32 x97) fun Hx111 => ST Hx111 bq107 ((oq108 + (k106 * 4)) + 3) (.int .i64 x98) fun Hx112 => IDX j89 datal2 fun k113 => NIL datap1 fun bq114 oq115 => ST Hx112 bq114 (oq115 + (k113 * 4)) (.int .u32 x102) fun Hx116 => ST Hx116 bq114 ((oq115 + (k113 * 4)) + 1) (.int .i64 x103) fun Hx117 => ST Hx117 bq114 ((oq115 + (k113 * 4)) + 2) (.int .u32 x104) fun Hx118 => ST Hx118 bq114 ((oq115 + (k113 * 4)) + 3) (.int .i64 x105) fun Hx119 => CHK .i64 (i65 + (1 : Int)) fun x120 => CHK .i64 (j89 - (1 : Int)) fun x121 => Iq41 x120 x121 Hx119 ∧ mu42 x120 x121 Hx119 < mu42 i38 j39 Hx40)
def slices_partitionEqualCmpFunc_api_Edge.k1 (Hx40 : Hp) (Iq41 : Int → Int → Hp → Prop) (K : Int → Hp → Prop) (a4 : Int) (cmp7 : Value) (datal2 : Nat) (datap1 : Option Addr) (i38 : Int) (j39 : Int) (mu42 : Int → Int → Hp → Nat) (i65 : Int) (Hx66 : Hp) : Prop :=
  ∃ (Iq69 : Int → Hp → Prop) (mu70 : Int → Hp → Nat), Iq69 j39 Hx66 ∧ ∀ (j67 : Int) (Hx68 : Hp), Iq69 j67 Hx68 → bc ((decide (i65 ≤ j67))) (IDX a4 datal2 fun k71 => NIL datap1 fun bq72 oq73 => ldI .u32 (rd Hx68 bq72 (oq73 + (k71 * 4))) fun x74 => ldI .i64 (rd Hx68 bq72 ((oq73 + (k71 * 4)) + 1)) fun x75 => ldI .u32 (rd Hx68 bq72 (((oq73 + (k71 * 4)) + 1) + 1)) fun x76 => ldI .i64 (rd Hx68 bq72 ((((oq73 + (k71 * 4)) + 1) + 1) + 1)) fun x77 => IDX j67 datal2 fun k78 => NIL datap1 fun bq79 oq80 => ldI .u32 (rd Hx68 bq79 (oq80 + (k78 * 4))) fun x81 => ldI .i64 (rd Hx68 bq79 ((oq80 + (k78 * 4)) + 1)) fun x82 => ldI .u32 (rd Hx68 bq79 (((oq80 + (k78 * 4)) + 1) + 1)) fun x83 => ldI .i64 (rd Hx68 bq79 ((((oq80 + (k78 * 4)) + 1) + 1) + 1)) fun x84 => CallV prog cmp7 [.agg ⟨[.int .u32 x74, .int .i64 x75, .int .u32 x76, .int .i64 x77]⟩, .agg ⟨[.int .u32 x81, .int .i64 x82, .int .u32 x83, .int .i64 x84]⟩] Hx68 fun v Hx86 => liftI .i64 v fun r85 => bc ((decide (r85 < (0 : Int)))) (CHK .i64 (j67 - (1 : Int)) fun x87 => Iq69 x87 Hx86 ∧ mu70 x87 Hx86 < mu70 j67 Hx68) (slices_partitionEqualCmpFunc_api_Edge.k2 Hx40 Iq41 K datal2 datap1 i38 i65 j39 mu42 j67 Hx86)) (slices_partitionEqualCmpFunc_api_Edge.k2 Hx40 Iq41 K datal2 datap1 i38 i65 j39 mu42 j67 Hx68)
def slices_partitionEqualCmpFunc_api_Edge.F (datap1 : Option Addr) (datal2 : Nat) (_datac3 : Nat) (a4 : Int) (bq5 : Int) (pivot6 : Int) (cmp7 : Value) (H : Hp) (K : Int → Hp → Prop) : Prop :=
  IDX pivot6 datal2 fun k8 => NIL datap1 fun bq9 oq10 => ldI .u32 (rd H bq9 (oq10 + (k8 * 4))) fun x11 => ldI .i64 (rd H bq9 ((oq10 + (k8 * 4)) + 1)) fun x12 => ldI .u32 (rd H bq9 (((oq10 + (k8 * 4)) + 1) + 1)) fun x13 => ldI .i64 (rd H bq9 ((((oq10 + (k8 * 4)) + 1) + 1) + 1)) fun x14 => IDX a4 datal2 fun k15 => NIL datap1 fun bq16 oq17 => ldI .u32 (rd H bq16 (oq17 + (k15 * 4))) fun x18 => ldI .i64 (rd H bq16 ((oq17 + (k15 * 4)) + 1)) fun x19 => ldI .u32 (rd H bq16 (((oq17 + (k15 * 4)) + 1) + 1)) fun x20 => ldI .i64 (rd H bq16 ((((oq17 + (k15 * 4)) + 1) + 1) + 1)) fun x21 => IDX a4 datal2 fun k22 => NIL datap1 fun bq23 oq24 => ST H bq23 (oq24 + (k22 * 4)) (.int .u32 x11) fun Hx25 => ST Hx25 bq23 ((oq24 + (k22 * 4)) + 1) (.int .i64 x12) fun Hx26 => ST Hx26 bq23 ((oq24 + (k22 * 4)) + 2) (.int .u32 x13) fun Hx27 => ST Hx27 bq23 ((oq24 + (k22 * 4)) + 3) (.int .i64 x14) fun Hx28 => IDX pivot6 datal2 fun k29 => NIL datap1 fun bq30 oq31 => ST Hx28 bq30 (oq31 + (k29 * 4)) (.int .u32 x18) fun Hx32 => ST Hx32 bq30 ((oq31 + (k29 * 4)) + 1) (.int .i64 x19) fun Hx33 => ST Hx33 bq30 ((oq31 + (k29 * 4)) + 2) (.int .u32 x20) fun Hx34 => ST Hx34 bq30 ((oq31 + (k29 * 4)) + 3) (.int .i64 x21) fun Hx35 => CHK .i64 (a4 + (1 : Int)) fun x36 => CHK .i64 (bq5 - (1 : Int)) fun x37 => ∃ (Iq41 : Int → Int → Hp → Prop) (mu42 : Int → Int → Hp → Nat), Iq41 x36 x37 Hx35 ∧ ∀ (i38 : Int) (j39 : Int) (Hx40 : Hp), Iq41 i38 j39 Hx40 → ∃ (Iq45 : Int → Hp → Prop) (mu46 : Int → Hp → Nat), Iq45 i38 Hx40 ∧ ∀ (i43 : Int) (Hx44 : Hp), Iq45 i43 Hx44 → bc ((decide (i43 ≤ j39))) (IDX a4 datal2 fun k47 => NIL datap1 fun bq48 oq49 => ldI .u32 (rd Hx44 bq48 (oq49 + (k47 * 4))) fun x50 => ldI .i64 (rd Hx44 bq48 ((oq49 + (k47 * 4)) + 1)) fun x51 => ldI .u32 (rd Hx44 bq48 (((oq49 + (k47 * 4)) + 1) + 1)) fun x52 => ldI .i64 (rd Hx44 bq48 ((((oq49 + (k47 * 4)) + 1) + 1) + 1)) fun x53 => IDX i43 datal2 fun k54 => NIL datap1 fun bq55 oq56 => ldI .u32 (rd Hx44 bq55 (oq56 + (k54 * 4))) fun x57 => ldI .i64 (rd Hx44 bq55 ((oq56 + (k54 * 4)) + 1)) fun x58 => ldI .u32 (rd Hx44 bq55 (((oq56 + (k54 * 4)) + 1) + 1)) fun x59 => ldI .i64 (rd Hx44 bq55 ((((oq56 + (k54 * 4)) + 1) + 1) + 1)) fun x60 => CallV prog cmp7 [.agg ⟨[.int .u32 x50, .int .i64 x51, .int .u32 x52, .int .i64 x53]⟩, .agg ⟨[.int .u32 x57, .int .i64 x58, .int .u32 x59, .int .i64 x60]⟩] Hx44 fun v Hx62 => liftI .i64 v fun r61 => bc ((!(decide (r61 < (0 : Int))))) (CHK .i64 (i43 + (1 : Int)) fun x63 => Iq45 x63 Hx62 ∧ mu46 x63 Hx62 < mu46 i43 Hx44) (slices_partitionEqualCmpFunc_api_Edge.k1 Hx40 Iq41 K a4 cmp7 datal2 datap1 i38 j39 mu42 i43 Hx62)) (slices_partitionEqualCmpFunc_api_Edge.k1 Hx40 Iq41 K a4 cmp7 datal2 datap1 i38 j39 mu42 i43 Hx44)
theorem slices_partitionEqualCmpFunc_api_Edge.vc (datap1 : Option Addr) (datal2 : Nat) (datac3 : Nat) (a4 : Int) (bq5 : Int) (pivot6 : Int) (cmp7 : Value) (H : Hp) (K : Int → Hp → Prop) : vcFun prog tab slices_partitionEqualCmpFunc_api_Edge.ann none Tryd.f73 (List.map AV.v [.slice datap1 datal2 datac3, .int .i64 a4, .int .i64 bq5, .int .i64 pivot6, cmp7]) H (fun v H2 _ => liftI .i64 v fun r128 => K r128 H2) = slices_partitionEqualCmpFunc_api_Edge.F datap1 datal2 datac3 a4 bq5 pivot6 cmp7 H K := by kernel_rfl
theorem slices_partitionEqualCmpFunc_api_Edge.of (datap1 : Option Addr) (datal2 : Nat) (datac3 : Nat) (a4 : Int) (bq5 : Int) (pivot6 : Int) (cmp7 : Value) {H : Hp} {K : Int → Hp → Prop} (h : slices_partitionEqualCmpFunc_api_Edge.F datap1 datal2 datac3 a4 bq5 pivot6 cmp7 H K) : slices_partitionEqualCmpFunc_api_Edge.C datap1 datal2 datac3 a4 bq5 pivot6 cmp7 H K := CallH_of_vc mix tabOk Tryd.func73 (by kernel_rfl) ((slices_partitionEqualCmpFunc_api_Edge.vc datap1 datal2 datac3 a4 bq5 pivot6 cmp7 H K).mpr h)
-- slices.partitionCmpFunc[cento/api.Edge] (74)
def slices_partitionCmpFunc_api_Edge.ann : Ann := { loops := [(0, [(12, .one (.int .i64))]), (2, [(13, .one (.int .i64))]), (4, [(12, .one (.int .i64)), (13, .one (.int .i64))]), (6, [(12, .one (.int .i64))]), (8, [(13, .one (.int .i64))])], pars := [] }
def slices_partitionCmpFunc_api_Edge.k5 (K : Int → Bool → Hp → Prop) (a4 : Int) (datal2 : Nat) (datap1 : Option Addr) (j199 : Int) (Hx200 : Hp) : Prop :=
  IDX a4 datal2 fun k201 => NIL datap1 fun bq202 oq203 => ldI .u32 (rd Hx200 bq202 (oq203 + (k201 * 4))) fun x204 => ldI .i64 (rd Hx200 bq202 ((oq203 + (k201 * 4)) + 1)) fun x205 => ldI .u32 (rd Hx200 bq202 (((oq203 + (k201 * 4)) + 1) + 1)) fun x206 => ldI .i64 (rd Hx200 bq202 ((((oq203 + (k201 * 4)) + 1) + 1) + 1)) fun x207 => IDX j199 datal2 fun k208 => NIL datap1 fun bq209 oq210 => ldI .u32 (rd Hx200 bq209 (oq210 + (k208 * 4))) fun x211 => ldI .i64 (rd Hx200 bq209 ((oq210 + (k208 * 4)) + 1)) fun x212 => ldI .u32 (rd Hx200 bq209 (((oq210 + (k208 * 4)) + 1) + 1)) fun x213 => ldI .i64 (rd Hx200 bq209 ((((oq210 + (k208 * 4)) + 1) + 1) + 1)) fun x214 => IDX j199 datal2 fun k215 => NIL datap1 fun bq216 oq217 => ST Hx200 bq216 (oq217 + (k215 * 4)) (.int .u32 x204) fun Hx218 => ST Hx218 bq216 ((oq217 + (k215 * 4)) + 1) (.int .i64 x205) fun Hx219 => ST Hx219 bq216 ((oq217 + (k215 * 4)) + 2) (.int .u32 x206) fun Hx220 => ST Hx220 bq216 ((oq217 + (k215 * 4)) + 3) (.int .i64 x207) fun Hx221 => IDX a4 datal2 fun k222 => NIL datap1 fun bq223 oq224 => ST Hx221 bq223 (oq224 + (k222 * 4)) (.int .u32 x211) fun Hx225 => ST Hx225 bq223 ((oq224 + (k222 * 4)) + 1) (.int .i64 x212) fun Hx226 => ST Hx226 bq223 ((oq224 + (k222 * 4)) + 2) (.int .u32 x213) fun Hx227 => ST Hx227 bq223 ((oq224 + (k222 * 4)) + 3) (.int .i64 x214) fun Hx228 => K j199 false Hx228
def slices_partitionCmpFunc_api_Edge.k4 (Hx148 : Hp) (Iq149 : Int → Int → Hp → Prop) (K : Int → Bool → Hp → Prop) (a4 : Int) (datal2 : Nat) (datap1 : Option Addr) (i146 : Int) (i173 : Int) (j147 : Int) (mu150 : Int → Int → Hp → Nat) (j197 : Int) (Hx198 : Hp) : Prop :=
  bc ((decide (j197 < i173))) (slices_partitionCmpFunc_api_Edge.k5 K a4 datal2 datap1 j197 Hx198) (IDX j197 datal2 fun k232 => NIL datap1 fun bq233 oq234 => ldI .u32 (rd Hx198 bq233 (oq234 + (k232 * 4))) fun x235 => ldI .i64 (rd Hx198 bq233 ((oq234 + (k232 * 4)) + 1)) fun x236 => ldI .u32 (rd Hx198 bq233 (((oq234 + (k232 * 4)) + 1) + 1)) fun x237 => ldI .i64 (rd Hx198 bq233 ((((oq234 + (k232 * 4)) + 1) + 1) + 1)) fun x238 => IDX i173 datal2 fun k239 => NIL datap1 fun bq240 oq241 => ldI .u32 (rd Hx198 bq240 (oq241 + (k239 * 4))) fun x242 => ldI .i64 (rd Hx198 bq240 ((oq241 + (k239 * 4)) + 1)) fun x243 => ldI .u32 (rd Hx198 bq240 (((oq241 + (k239 * 4)) + 1) + 1)) fun x244 => ldI .i64 (rd Hx198 bq240 ((((oq241 + (k239 * 4)) + 1) + 1) + 1)) fun x245 => IDX i173 datal2 fun k246 => NIL datap1 fun bq247 oq248 => ST Hx198 bq247 (oq248 + (k246 * 4)) (.int .u32 x235) fun Hx249 => ST Hx249 bq247 ((oq248 + (k246 * 4)) + 1) (.int .i64 x236) fun Hx250 => ST Hx250 bq247 ((oq248 + (k246 * 4)) + 2) (.int .u32 x237) fun Hx251 => ST Hx251 bq247 ((oq248 + (k246 * 4)) + 3) (.int .i64 x238) fun Hx252 => IDX j197 datal2 fun k253 => NIL datap1 fun bq254 oq255 => ST Hx252 bq254 (oq255 + (k253 * 4)) (.int .u32 x242) fun Hx256 => ST Hx256 bq254 ((oq255 + (k253 * 4)) + 1) (.int .i64 x243) fun Hx257 => ST Hx257 bq254 ((oq255 + (k253 * 4)) + 2) (.int .u32 x244) fun Hx258 => ST Hx258 bq254 ((oq255 + (k253 * 4)) + 3) (.int .i64 x245) fun Hx259 => CHK .i64 (i173 + (1 : Int)) fun x260 => CHK .i64 (j197 - (1 : Int)) fun x261 => Iq149 x260 x261 Hx259 ∧ mu150 x260 x261 Hx259 < mu150 i146 j147 Hx148)
def slices_partitionCmpFunc_api_Edge.k3 (Hx148 : Hp) (Iq149 : Int → Int → Hp → Prop) (K : Int → Bool → Hp → Prop) (a4 : Int) (cmp7 : Value) (datal2 : Nat) (datap1 : Option Addr) (i146 : Int) (j147 : Int) (mu150 : Int → Int → Hp → Nat) (i173 : Int) (Hx174 : Hp) : Prop :=
  ∃ (Iq177 : Int → Hp → Prop) (mu178 : Int → Hp → Nat), Iq177 j147 Hx174 ∧ ∀ (j175 : Int) (Hx176 : Hp), Iq177 j175 Hx176 → bc ((decide (i173 ≤ j175))) (IDX j175 datal2 fun k179 => NIL datap1 fun bq180 oq181 => ldI .u32 (rd Hx176 bq180 (oq181 + (k179 * 4))) fun x182 => ldI .i64 (rd Hx176 bq180 ((oq181 + (k179 * 4)) + 1)) fun x183 => ldI .u32 (rd Hx176 bq180 (((oq181 + (k179 * 4)) + 1) + 1)) fun x184 => ldI .i64 (rd Hx176 bq180 ((((oq181 + (k179 * 4)) + 1) + 1) + 1)) fun x185 => IDX a4 datal2 fun k186 => NIL datap1 fun bq187 oq188 => ldI .u32 (rd Hx176 bq187 (oq188 + (k186 * 4))) fun x189 => ldI .i64 (rd Hx176 bq187 ((oq188 + (k186 * 4)) + 1)) fun x190 => ldI .u32 (rd Hx176 bq187 (((oq188 + (k186 * 4)) + 1) + 1)) fun x191 => ldI .i64 (rd Hx176 bq187 ((((oq188 + (k186 * 4)) + 1) + 1) + 1)) fun x192 => CallV prog cmp7 [.agg ⟨[.int .u32 x182, .int .i64 x183, .int .u32 x184, .int .i64 x185]⟩, .agg ⟨[.int .u32 x189, .int .i64 x190, .int .u32 x191, .int .i64 x192]⟩] Hx176 fun v Hx194 => liftI .i64 v fun r193 => bc ((!(decide (r193 < (0 : Int))))) (CHK .i64 (j175 - (1 : Int)) fun x195 => Iq177 x195 Hx194 ∧ mu178 x195 Hx194 < mu178 j175 Hx176) (slices_partitionCmpFunc_api_Edge.k4 Hx148 Iq149 K a4 datal2 datap1 i146 i173 j147 mu150 j175 Hx194)) (slices_partitionCmpFunc_api_Edge.k4 Hx148 Iq149 K a4 datal2 datap1 i146 i173 j147 mu150 j175 Hx176)
def slices_partitionCmpFunc_api_Edge.k2 (K : Int → Bool → Hp → Prop) (a4 : Int) (cmp7 : Value) (datal2 : Nat) (datap1 : Option Addr) (i60 : Int) (j84 : Int) (Hx85 : Hp) : Prop :=
  bc ((decide (j84 < i60))) (IDX a4 datal2 fun k86 => NIL datap1 fun bq87 oq88 => ldI .u32 (rd Hx85 bq87 (oq88 + (k86 * 4))) fun x89 => ldI .i64 (rd Hx85 bq87 ((oq88 + (k86 * 4)) + 1)) fun x90 => ldI .u32 (rd Hx85 bq87 (((oq88 + (k86 * 4)) + 1) + 1)) fun x91 => ldI .i64 (rd Hx85 bq87 ((((oq88 + (k86 * 4)) + 1) + 1) + 1)) fun x92 => IDX j84 datal2 fun k93 => NIL datap1 fun bq94 oq95 => ldI .u32 (rd Hx85 bq94 (oq95 + (k93 * 4))) fun x96 => ldI .i64 (rd Hx85 bq94 ((oq95 + (k93 * 4)) + 1)) fun x97 => ldI .u32 (rd Hx85 bq94 (((oq95 + (k93 * 4)) + 1) + 1)) fun x98 => ldI .i64 (rd Hx85 bq94 ((((oq95 + (k93 * 4)) + 1) + 1) + 1)) fun x99 => IDX j84 datal2 fun k100 => NIL datap1 fun bq101 oq102 => ST Hx85 bq101 (oq102 + (k100 * 4)) (.int .u32 x89) fun Hx103 => ST Hx103 bq101 ((oq102 + (k100 * 4)) + 1) (.int .i64 x90) fun Hx104 => ST Hx104 bq101 ((oq102 + (k100 * 4)) + 2) (.int .u32 x91) fun Hx105 => ST Hx105 bq101 ((oq102 + (k100 * 4)) + 3) (.int .i64 x92) fun Hx106 => IDX a4 datal2 fun k107 => NIL datap1 fun bq108 oq109 => ST Hx106 bq108 (oq109 + (k107 * 4)) (.int .u32 x96) fun Hx110 => ST Hx110 bq108 ((oq109 + (k107 * 4)) + 1) (.int .i64 x97) fun Hx111 => ST Hx111 bq108 ((oq109 + (k107 * 4)) + 2) (.int .u32 x98) fun Hx112 => ST Hx112 bq108 ((oq109 + (k107 * 4)) + 3) (.int .i64 x99) fun Hx113 => K j84 true Hx113) (IDX j84 datal2 fun k116 => NIL datap1 fun bq117 oq118 => ldI .u32 (rd Hx85 bq117 (oq118 + (k116 * 4))) fun x119 => ldI .i64 (rd Hx85 bq117 ((oq118 + (k116 * 4)) + 1)) fun x120 => ldI .u32 (rd Hx85 bq117 (((oq118 + (k116 * 4)) + 1) + 1)) fun x121 => ldI .i64 (rd Hx85 bq117 ((((oq118 + (k116 * 4)) + 1) + 1) + 1)) fun x122 => IDX i60 datal2 fun k123 => NIL datap1 fun bq124 oq125 => ldI .u32 (rd Hx85 bq124 (oq125 + (k123 * 4))) fun x126 => ldI .i64 (rd Hx85 bq124 ((oq125 + (k123 * 4)) + 1)) fun x127 => ldI .u32 (rd Hx85 bq124 (((oq125 + (k123 * 4)) + 1) + 1)) fun x128 => ldI .i64 (rd Hx85 bq124 ((((oq125 + (k123 * 4)) + 1) + 1) + 1)) fun x129 => IDX i60 datal2 fun k130 => NIL datap1 fun bq131 oq132 => ST Hx85 bq131 (oq132 + (k130 * 4)) (.int .u32 x119) fun Hx133 => ST Hx133 bq131 ((oq132 + (k130 * 4)) + 1) (.int .i64 x120) fun Hx134 => ST Hx134 bq131 ((oq132 + (k130 * 4)) + 2) (.int .u32 x121) fun Hx135 => ST Hx135 bq131 ((oq132 + (k130 * 4)) + 3) (.int .i64 x122) fun Hx136 => IDX j84 datal2 fun k137 => NIL datap1 fun bq138 oq139 => ST Hx136 bq138 (oq139 + (k137 * 4)) (.int .u32 x126) fun Hx140 => ST Hx140 bq138 ((oq139 + (k137 * 4)) + 1) (.int .i64 x127) fun Hx141 => ST Hx141 bq138 ((oq139 + (k137 * 4)) + 2) (.int .u32 x128) fun Hx142 => ST Hx142 bq138 ((oq139 + (k137 * 4)) + 3) (.int .i64 x129) fun Hx143 => CHK .i64 (i60 + (1 : Int)) fun x144 => CHK .i64 (j84 - (1 : Int)) fun x145 => ∃ (Iq149 : Int → Int → Hp → Prop) (mu150 : Int → Int → Hp → Nat), Iq149 x144 x145 Hx143 ∧ ∀ (i146 : Int) (j147 : Int) (Hx148 : Hp), Iq149 i146 j147 Hx148 → ∃ (Iq153 : Int → Hp → Prop) (mu154 : Int → Hp → Nat), Iq153 i146 Hx148 ∧ ∀ (i151 : Int) (Hx152 : Hp), Iq153 i151 Hx152 → bc ((decide (i151 ≤ j147))) (IDX i151 datal2 fun k155 => NIL datap1 fun bq156 oq157 => ldI .u32 (rd Hx152 bq156 (oq157 + (k155 * 4))) fun x158 => ldI .i64 (rd Hx152 bq156 ((oq157 + (k155 * 4)) + 1)) fun x159 => ldI .u32 (rd Hx152 bq156 (((oq157 + (k155 * 4)) + 1) + 1)) fun x160 => ldI .i64 (rd Hx152 bq156 ((((oq157 + (k155 * 4)) + 1) + 1) + 1)) fun x161 => IDX a4 datal2 fun k162 => NIL datap1 fun bq163 oq164 => ldI .u32 (rd Hx152 bq163 (oq164 + (k162 * 4))) fun x165 => ldI .i64 (rd Hx152 bq163 ((oq164 + (k162 * 4)) + 1)) fun x166 => ldI .u32 (rd Hx152 bq163 (((oq164 + (k162 * 4)) + 1) + 1)) fun x167 => ldI .i64 (rd Hx152 bq163 ((((oq164 + (k162 * 4)) + 1) + 1) + 1)) fun x168 => CallV prog cmp7 [.agg ⟨[.int .u32 x158, .int .i64 x159, .int .u32 x160, .int .i64 x161]⟩, .agg ⟨[.int .u32 x165, .int .i64 x166, .int .u32 x167, .int .i64 x168]⟩] Hx152 fun v Hx170 => liftI .i64 v fun r169 => bc ((decide (r169 < (0 : Int)))) (CHK .i64 (i151 + (1 : Int)) fun x171 => Iq153 x171 Hx170 ∧ mu154 x171 Hx170 < mu154 i151 Hx152) (slices_partitionCmpFunc_api_Edge.k3 Hx148 Iq149 K a4 cmp7 datal2 datap1 i146 j147 mu150 i151 Hx170)) (slices_partitionCmpFunc_api_Edge.k3 Hx148 Iq149 K a4 cmp7 datal2 datap1 i146 j147 mu150 i151 Hx152))
def slices_partitionCmpFunc_api_Edge.k1 (K : Int → Bool → Hp → Prop) (a4 : Int) (cmp7 : Value) (datal2 : Nat) (datap1 : Option Addr) (x37 : Int) (i60 : Int) (Hx61 : Hp) : Prop :=
  ∃ (Iq64 : Int → Hp → Prop) (mu65 : Int → Hp → Nat), Iq64 x37 Hx61 ∧ ∀ (j62 : Int) (Hx63 : Hp), Iq64 j62 Hx63 → bc ((decide (i60 ≤ j62))) (IDX j62 datal2 fun k66 => NIL datap1 fun bq67 oq68 => ldI .u32 (rd Hx63 bq67 (oq68 + (k66 * 4))) fun x69 => ldI .i64 (rd Hx63 bq67 ((oq68 + (k66 * 4)) + 1)) fun x70 => ldI .u32 (rd Hx63 bq67 (((oq68 + (k66 * 4)) + 1) + 1)) fun x71 => ldI .i64 (rd Hx63 bq67 ((((oq68 + (k66 * 4)) + 1) + 1) + 1)) fun x72 => IDX a4 datal2 fun k73 => NIL datap1 fun bq74 oq75 => ldI .u32 (rd Hx63 bq74 (oq75 + (k73 * 4))) fun x76 => ldI .i64 (rd Hx63 bq74 ((oq75 + (k73 * 4)) + 1)) fun x77 => ldI .u32 (rd Hx63 bq74 (((oq75 + (k73 * 4)) + 1) + 1)) fun x78 => ldI .i64 (rd Hx63 bq74 ((((oq75 + (k73 * 4)) + 1) + 1) + 1)) fun x79 => CallV prog cmp7 [.agg ⟨[.int .u32 x69, .int .i64 x70, .int .u32 x71, .int .i64 x72]⟩, .agg ⟨[.int .u32 x76, .int .i64 x77, .int .u32 x78, .int .i64 x79]⟩] Hx63 fun v Hx81 => liftI .i64 v fun r80 => bc ((!(decide (r80 < (0 : Int))))) (CHK .i64 (j62 - (1 : Int)) fun x82 => Iq64 x82 Hx81 ∧ mu65 x82 Hx81 < mu65 j62 Hx63) (slices_partitionCmpFunc_api_Edge.k2 K a4 cmp7 datal2 datap1 i60 j62 Hx81)) (slices_partitionCmpFunc_api_Edge.k2 K a4 cmp7 datal2 datap1 i60 j62 Hx63)
def slices_partitionCmpFunc_api_Edge.F (datap1 : Option Addr) (datal2 : Nat) (_datac3 : Nat) (a4 : Int) (bq5 : Int) (pivot6 : Int) (cmp7 : Value) (H : Hp) (K : Int → Bool → Hp → Prop) : Prop :=
  IDX pivot6 datal2 fun k8 => NIL datap1 fun bq9 oq10 => ldI .u32 (rd H bq9 (oq10 + (k8 * 4))) fun x11 => ldI .i64 (rd H bq9 ((oq10 + (k8 * 4)) + 1)) fun x12 => ldI .u32 (rd H bq9 (((oq10 + (k8 * 4)) + 1) + 1)) fun x13 => ldI .i64 (rd H bq9 ((((oq10 + (k8 * 4)) + 1) + 1) + 1)) fun x14 => IDX a4 datal2 fun k15 => NIL datap1 fun bq16 oq17 => ldI .u32 (rd H bq16 (oq17 + (k15 * 4))) fun x18 => ldI .i64 (rd H bq16 ((oq17 + (k15 * 4)) + 1)) fun x19 => ldI .u32 (rd H bq16 (((oq17 + (k15 * 4)) + 1) + 1)) fun x20 => ldI .i64 (rd H bq16 ((((oq17 + (k15 * 4)) + 1) + 1) + 1)) fun x21 => IDX a4 datal2 fun k22 => NIL datap1 fun bq23 oq24 => ST H bq23 (oq24 + (k22 * 4)) (.int .u32 x11) fun Hx25 => ST Hx25 bq23 ((oq24 + (k22 * 4)) + 1) (.int .i64 x12) fun Hx26 => ST Hx26 bq23 ((oq24 + (k22 * 4)) + 2) (.int .u32 x13) fun Hx27 => ST Hx27 bq23 ((oq24 + (k22 * 4)) + 3) (.int .i64 x14) fun Hx28 => IDX pivot6 datal2 fun k29 => NIL datap1 fun bq30 oq31 => ST Hx28 bq30 (oq31 + (k29 * 4)) (.int .u32 x18) fun Hx32 => ST Hx32 bq30 ((oq31 + (k29 * 4)) + 1) (.int .i64 x19) fun Hx33 => ST Hx33 bq30 ((oq31 + (k29 * 4)) + 2) (.int .u32 x20) fun Hx34 => ST Hx34 bq30 ((oq31 + (k29 * 4)) + 3) (.int .i64 x21) fun Hx35 => CHK .i64 (a4 + (1 : Int)) fun x36 => CHK .i64 (bq5 - (1 : Int)) fun x37 => ∃ (Iq40 : Int → Hp → Prop) (mu41 : Int → Hp → Nat), Iq40 x36 Hx35 ∧ ∀ (i38 : Int) (Hx39 : Hp), Iq40 i38 Hx39 → bc ((decide (i38 ≤ x37))) (IDX i38 datal2 fun k42 => NIL datap1 fun bq43 oq44 => ldI .u32 (rd Hx39 bq43 (oq44 + (k42 * 4))) fun x45 => ldI .i64 (rd Hx39 bq43 ((oq44 + (k42 * 4)) + 1)) fun x46 => ldI .u32 (rd Hx39 bq43 (((oq44 + (k42 * 4)) + 1) + 1)) fun x47 => ldI .i64 (rd Hx39 bq43 ((((oq44 + (k42 * 4)) + 1) + 1) + 1)) fun x48 => IDX a4 datal2 fun k49 => NIL datap1 fun bq50 oq51 => ldI .u32 (rd Hx39 bq50 (oq51 + (k49 * 4))) fun x52 => ldI .i64 (rd Hx39 bq50 ((oq51 + (k49 * 4)) + 1)) fun x53 => ldI .u32 (rd Hx39 bq50 (((oq51 + (k49 * 4)) + 1) + 1)) fun x54 => ldI .i64 (rd Hx39 bq50 ((((oq51 + (k49 * 4)) + 1) + 1) + 1)) fun x55 => CallV prog cmp7 [.agg ⟨[.int .u32 x45, .int .i64 x46, .int .u32 x47, .int .i64 x48]⟩, .agg ⟨[.int .u32 x52, .int .i64 x53, .int .u32 x54, .int .i64 x55]⟩] Hx39 fun v Hx57 => liftI .i64 v fun r56 => bc ((decide (r56 < (0 : Int)))) (CHK .i64 (i38 + (1 : Int)) fun x58 => Iq40 x58 Hx57 ∧ mu41 x58 Hx57 < mu41 i38 Hx39) (slices_partitionCmpFunc_api_Edge.k1 K a4 cmp7 datal2 datap1 x37 i38 Hx57)) (slices_partitionCmpFunc_api_Edge.k1 K a4 cmp7 datal2 datap1 x37 i38 Hx39)
theorem slices_partitionCmpFunc_api_Edge.vc (datap1 : Option Addr) (datal2 : Nat) (datac3 : Nat) (a4 : Int) (bq5 : Int) (pivot6 : Int) (cmp7 : Value) (H : Hp) (K : Int → Bool → Hp → Prop) : vcFun prog tab slices_partitionCmpFunc_api_Edge.ann none Tryd.f74 (List.map AV.v [.slice datap1 datal2 datac3, .int .i64 a4, .int .i64 bq5, .int .i64 pivot6, cmp7]) H (fun v H2 _ => tupV v fun vs => d2 vs fun wv0 wv1 => liftI .i64 wv0 fun r272 => liftB wv1 fun r273 => K r272 r273 H2) = slices_partitionCmpFunc_api_Edge.F datap1 datal2 datac3 a4 bq5 pivot6 cmp7 H K := by kernel_rfl
theorem slices_partitionCmpFunc_api_Edge.of (datap1 : Option Addr) (datal2 : Nat) (datac3 : Nat) (a4 : Int) (bq5 : Int) (pivot6 : Int) (cmp7 : Value) {H : Hp} {K : Int → Bool → Hp → Prop} (h : slices_partitionCmpFunc_api_Edge.F datap1 datal2 datac3 a4 bq5 pivot6 cmp7 H K) : slices_partitionCmpFunc_api_Edge.C datap1 datal2 datac3 a4 bq5 pivot6 cmp7 H K := CallH_of_vc mix tabOk Tryd.func74 (by kernel_rfl) ((slices_partitionCmpFunc_api_Edge.vc datap1 datal2 datac3 a4 bq5 pivot6 cmp7 H K).mpr h)
-- math/bits.Len64 (76)
def math_bits_Len64.ann : Ann := { loops := [], pars := [] }
def math_bits_Len64.k3 (K : Int → Hp → Prop) (x10 : Int) (n11 : Int) (Hx12 : Hp) : Prop :=
  IDX (IntKind.wrap .u8 x10) (bs [0, 1, 2, 2, 3, 3, 3, 3, 4, 4, 4, 4, 4, 4, 4, 4, 5, 5, 5, 5, 5, 5, 5, 5, 5, 5, 5, 5, 5, 5, 5, 5, 6, 6, 6, 6, 6, 6, 6, 6, 6, 6, 6, 6, 6, 6, 6, 6, 6, 6, 6, 6, 6, 6, 6, 6, 6, 6, 6, 6, 6, 6, 6, 6, 7, 7, 7, 7, 7, 7, 7, 7, 7, 7, 7, 7, 7, 7, 7, 7, 7, 7, 7, 7, 7, 7, 7, 7, 7, 7, 7, 7, 7, 7, 7, 7, 7, 7, 7, 7, 7, 7, 7, 7, 7, 7, 7, 7, 7, 7, 7, 7, 7, 7, 7, 7, 7, 7, 7, 7, 7, 7, 7, 7, 7, 7, 7, 7, 8, 8, 8, 8, 8, 8, 8, 8, 8, 8, 8, 8, 8, 8, 8, 8, 8, 8, 8, 8, 8, 8, 8, 8, 8, 8, 8, 8, 8, 8, 8, 8, 8, 8, 8, 8, 8, 8, 8, 8, 8, 8, 8, 8, 8, 8, 8, 8, 8, 8, 8, 8, 8, 8, 8, 8, 8, 8, 8, 8, 8, 8, 8, 8, 8, 8, 8, 8, 8, 8, 8, 8, 8, 8, 8, 8, 8, 8, 8, 8, 8, 8, 8, 8, 8, 8, 8, 8, 8, 8, 8, 8, 8, 8, 8, 8, 8, 8, 8, 8, 8, 8, 8, 8, 8, 8, 8, 8, 8, 8, 8, 8, 8, 8, 8, 8, 8, 8, 8, 8, 8, 8, 8, 8, 8, 8, 8, 8]).size fun k13 => CHK .i64 (((bs [0, 1, 2, 2, 3, 3, 3, 3, 4, 4, 4, 4, 4, 4, 4, 4, 5, 5, 5, 5, 5, 5, 5, 5, 5, 5, 5, 5, 5, 5, 5, 5, 6, 6, 6, 6, 6, 6, 6, 6, 6, 6, 6, 6, 6, 6, 6, 6, 6, 6, 6, 6, 6, 6, 6, 6, 6, 6, 6, 6, 6, 6, 6, 6, 7, 7, 7, 7, 7, 7, 7, 7, 7, 7, 7, 7, 7, 7, 7, 7, 7, 7, 7, 7, 7, 7, 7, 7, 7, 7, 7, 7, 7, 7, 7, 7, 7, 7, 7, 7, 7, 7, 7, 7, 7, 7, 7, 7, 7, 7, 7, 7, 7, 7, 7, 7, 7, 7, 7, 7, 7, 7, 7, 7, 7, 7, 7, 7, 8, 8, 8, 8, 8, 8, 8, 8, 8, 8, 8, 8, 8, 8, 8, 8, 8, 8, 8, 8, 8, 8, 8, 8, 8, 8, 8, 8, 8, 8, 8, 8, 8, 8, 8, 8, 8, 8, 8, 8, 8, 8, 8, 8, 8, 8, 8, 8, 8, 8, 8, 8, 8, 8, 8, 8, 8, 8, 8, 8, 8, 8, 8, 8, 8, 8, 8, 8, 8, 8, 8, 8, 8, 8, 8, 8, 8, 8, 8, 8, 8, 8, 8, 8, 8, 8, 8, 8, 8, 8, 8, 8, 8, 8, 8, 8, 8, 8, 8, 8, 8, 8, 8, 8, 8, 8, 8, 8, 8, 8, 8, 8, 8, 8, 8, 8, 8, 8, 8, 8, 8, 8, 8, 8, 8, 8, 8, 8]).data.toList.getD k13 0).toNat : Int) fun x14 => CHK .i64 (n11 + x14) fun x15 => K x15 Hx12
def math_bits_Len64.k2 (K : Int → Hp → Prop) (x6 : Int) (n7 : Int) (Hx8 : Hp) : Prop :=
  bc ((decide ((256 : Int) ≤ x6))) (0 ≤ (8 : Int) ∧ (CHK .i64 (n7 + (8 : Int)) fun x9 => math_bits_Len64.k3 K (ishr .u64 x6 (8 : Int)) x9 Hx8)) (math_bits_Len64.k3 K x6 n7 Hx8)
def math_bits_Len64.k1 (K : Int → Hp → Prop) (x2 : Int) (n3 : Int) (Hx4 : Hp) : Prop :=
  bc ((decide ((65536 : Int) ≤ x2))) (0 ≤ (16 : Int) ∧ (CHK .i64 (n3 + (16 : Int)) fun x5 => math_bits_Len64.k2 K (ishr .u64 x2 (16 : Int)) x5 Hx4)) (math_bits_Len64.k2 K x2 n3 Hx4)
def math_bits_Len64.F (x1 : Int) (H : Hp) (K : Int → Hp → Prop) : Prop :=
  bc ((decide ((4294967296 : Int) ≤ x1))) (0 ≤ (32 : Int) ∧ (math_bits_Len64.k1 K (ishr .u64 x1 (32 : Int)) (32 : Int) H)) (math_bits_Len64.k1 K x1 (0 : Int) H)
theorem math_bits_Len64.vc (x1 : Int) (H : Hp) (K : Int → Hp → Prop) : vcFun prog tab math_bits_Len64.ann none Tryd.f76 (List.map AV.v [.int .u64 x1]) H (fun v H2 _ => liftI .i64 v fun r29 => K r29 H2) = math_bits_Len64.F x1 H K := by kernel_rfl
theorem math_bits_Len64.of (x1 : Int) {H : Hp} {K : Int → Hp → Prop} (h : math_bits_Len64.F x1 H K) : math_bits_Len64.C x1 H K := CallH_of_vc mix tabOk Tryd.func76 (by kernel_rfl) ((math_bits_Len64.vc x1 H K).mpr h)
-- cmp.Compare[uint32] (77)
def cmp_Compare_uint32.ann : Ann := { loops := [], pars := [] }
def cmp_Compare_uint32.F (x1 : Int) (y2 : Int) (H : Hp) (K : Int → Hp → Prop) : Prop :=
  cmp_isNaN_uint32.C x1 H fun r3 Hx4 => cmp_isNaN_uint32.C y2 Hx4 fun r6 Hx7 => bc (r3) (bc (r6) (K (0 : Int) Hx7) (K (-1 : Int) Hx7)) (bc (r6) (K (1 : Int) Hx7) (bc ((decide (x1 < y2))) (K (-1 : Int) Hx7) (bc ((decide (y2 < x1))) (K (1 : Int) Hx7) (K (0 : Int) Hx7))))
theorem cmp_Compare_uint32.vc (x1 : Int) (y2 : Int) (H : Hp) (K : Int → Hp → Prop) : vcFun prog tab cmp_Compare_uint32.ann none Tryd.f77 (List.map AV.v [.int .u32 x1, .int .u32 y2]) H (fun v H2 _ => liftI .i64 v fun r15 => K r15 H2) = cmp_Compare_uint32.F x1 y2 H K := by kernel_rfl
theorem cmp_Compare_uint32.of (x1 : Int) (y2 : Int) {H : Hp} {K : Int → Hp → Prop} (h : cmp_Compare_uint32.F x1 y2 H K) : cmp_Compare_uint32.C x1 y2 H K := CallH_of_vc mix tabOk Tryd.func77 (by kernel_rfl) ((cmp_Compare_uint32.vc x1 y2 H K).mpr h)
-- cmp.Compare[int] (78)
def cmp_Compare_int.ann : Ann := { loops := [], pars := [] }
def cmp_Compare_int.F (x1 : Int) (y2 : Int) (H : Hp) (K : Int → Hp → Prop) : Prop :=
  cmp_isNaN_int.C x1 H fun r3 Hx4 => cmp_isNaN_int.C y2 Hx4 fun r6 Hx7 => bc (r3) (bc (r6) (K (0 : Int) Hx7) (K (-1 : Int) Hx7)) (bc (r6) (K (1 : Int) Hx7) (bc ((decide (x1 < y2))) (K (-1 : Int) Hx7) (bc ((decide (y2 < x1))) (K (1 : Int) Hx7) (K (0 : Int) Hx7))))
theorem cmp_Compare_int.vc (x1 : Int) (y2 : Int) (H : Hp) (K : Int → Hp → Prop) : vcFun prog tab cmp_Compare_int.ann none Tryd.f78 (List.map AV.v [.int .i64 x1, .int .i64 y2]) H (fun v H2 _ => liftI .i64 v fun r15 => K r15 H2) = cmp_Compare_int.F x1 y2 H K := by kernel_rfl
theorem cmp_Compare_int.of (x1 : Int) (y2 : Int) {H : Hp} {K : Int → Hp → Prop} (h : cmp_Compare_int.F x1 y2 H K) : cmp_Compare_int.C x1 y2 H K := CallH_of_vc mix tabOk Tryd.func78 (by kernel_rfl) ((cmp_Compare_int.vc x1 y2 H K).mpr h)
-- cento/centoref12.Alive (79)
def centoref12_Alive.ann : Ann := { loops := [(0, [(3, .one .slice), (4, .one (.int .i64))])], pars := [] }
def centoref12_Alive.F (f1 : ByteArray) (fp2 : Option Addr) (fl3 : Nat) (fc4 : Nat) (fp5 : Option Addr) (fl6 : Nat) (fc7 : Nat) (H : Hp) (K : Option Addr → Nat → Nat → Hp → Prop) : Prop :=
  NEW H [.string f1, .slice fp2 fl3 fc4, .slice fp5 fl6 fc7] fun bq8 Hx9 => ∃ (Iq15 : Option Addr → Nat → Nat → Int → Hp → Prop) (mu16 : Option Addr → Nat → Nat → Int → Hp → Nat), Iq15 none 0 0 (0 : Int) Hx9 ∧ ∀ (outp10 : Option Addr) (outl11 : Nat) (outc12 : Nat) (i13 : Int) (Hx14 : Hp), Iq15 outp10 outl11 outc12 i13 Hx14 → ldL (rd Hx14 bq8 1) fun _ xl18 _ => bc ((decide (i13 < ((xl18 : Nat) : Int)))) (ldL (rd Hx14 bq8 1) fun xp20 xl21 _ => IDX i13 xl21 fun k23 => NIL xp20 fun bq24 oq25 => ldB (rd Hx14 bq24 ((oq25 + (k23 * 4)) + 3)) fun x26 => bc ((!x26)) (NEW Hx14 ([.int .i64 i13]) fun bq27 Hx28 => APP Hx28 te_int outp10 outl11 outc12 (.slice (some ⟨bq27, 0, none⟩) 1 1) fun xp29 xl30 xc31 Hx32 => CHK .i64 (i13 + (1 : Int)) fun x33 => Iq15 xp29 xl30 xc31 x33 Hx32 ∧ mu16 xp29 xl30 xc31 x33 Hx32 < mu16 outp10 outl11 outc12 i13 Hx14) (CHK .i64 (i13 + (1 : Int)) fun x38 => Iq15 outp10 outl11 outc12 x38 Hx14 ∧ mu16 outp10 outl11 outc12 x38 Hx14 < mu16 outp10 outl11 outc12 i13 Hx14)) (K outp10 outl11 outc12 Hx14)
theorem centoref12_Alive.vc (f1 : ByteArray) (fp2 : Option Addr) (fl3 : Nat) (fc4 : Nat) (fp5 : Option Addr) (fl6 : Nat) (fc7 : Nat) (H : Hp) (K : Option Addr → Nat → Nat → Hp → Prop) : vcFun prog tab centoref12_Alive.ann none Tryd.f79 (List.map AV.v [.agg ⟨[.string f1, .slice fp2 fl3 fc4, .slice fp5 fl6 fc7]⟩]) H (fun v H2 _ => liftL v fun rp46 rl47 rc48 => K rp46 rl47 rc48 H2) = centoref12_Alive.F f1 fp2 fl3 fc4 fp5 fl6 fc7 H K := by kernel_rfl
theorem centoref12_Alive.of (f1 : ByteArray) (fp2 : Option Addr) (fl3 : Nat) (fc4 : Nat) (fp5 : Option Addr) (fl6 : Nat) (fc7 : Nat) {H : Hp} {K : Option Addr → Nat → Nat → Hp → Prop} (h : centoref12_Alive.F f1 fp2 fl3 fc4 fp5 fl6 fc7 H K) : centoref12_Alive.C f1 fp2 fl3 fc4 fp5 fl6 fc7 H K := CallH_of_vc mix tabOk Tryd.func79 (by kernel_rfl) ((centoref12_Alive.vc f1 fp2 fl3 fc4 fp5 fl6 fc7 H K).mpr h)
-- (*cento/centoref2.Rel).IsOrder (80)
def centoref2_Rel_IsOrder.ann : Ann := { loops := [(0, [(3, .one (.int .i64))])], pars := [] }
def centoref2_Rel_IsOrder.F (r1 : Option Addr) (H : Hp) (K : Bool → Hp → Prop) : Prop :=
  ∃ (Iq4 : Int → Hp → Prop) (mu5 : Int → Hp → Nat), Iq4 (0 : Int) H ∧ ∀ (a2 : Int) (Hx3 : Hp), Iq4 a2 Hx3 → NIL r1 fun bq6 oq7 => ldI .i64 (rd Hx3 bq6 oq7) fun x8 => bc ((decide (a2 < x8))) (NIL r1 fun bq9 oq10 => ldL (rd Hx3 bq9 (oq10 + 1)) fun xp11 xl12 _ => IDX a2 xl12 fun k14 => NIL xp11 fun bq15 oq16 => ldL (rd Hx3 bq15 (oq16 + k14)) fun xp17 xl18 _ => IDX a2 xl18 fun k20 => NIL xp17 fun bq21 oq22 => ldB (rd Hx3 bq21 (oq22 + k20)) fun x23 => bc (x23) (K false Hx3) (CHK .i64 (a2 + (1 : Int)) fun x25 => Iq4 x25 Hx3 ∧ mu5 x25 Hx3 < mu5 a2 Hx3)) (K true Hx3)
theorem centoref2_Rel_IsOrder.vc (r1 : Option Addr) (H : Hp) (K : Bool → Hp → Prop) : vcFun prog tab centoref2_Rel_IsOrder.ann none Tryd.f80 (List.map AV.v [.pointer r1]) H (fun v H2 _ => liftB v fun r28 => K r28 H2) = centoref2_Rel_IsOrder.F r1 H K := by kernel_rfl
theorem centoref2_Rel_IsOrder.of (r1 : Option Addr) {H : Hp} {K : Bool → Hp → Prop} (h : centoref2_Rel_IsOrder.F r1 H K) : centoref2_Rel_IsOrder.C r1 H K := CallH_of_vc mix tabOk Tryd.func80 (by kernel_rfl) ((centoref2_Rel_IsOrder.vc r1 H K).mpr h)
-- (*cento/centoref2.Rel).Circles (81)
def centoref2_Rel_Circles.ann : Ann := { loops := [(0, [(3, .one .slice), (4, .one (.int .i64))]), (2, [(5, .one .bool), (6, .one (.int .i64))]), (4, [(7, .one .slice), (8, .one (.int .i64))])], pars := [] }
def centoref2_Rel_Circles.F (r1 : Option Addr) (H : Hp) (K : Option Addr → Nat → Nat → Hp → Prop) : Prop :=
  ∃ (Iq7 : Option Addr → Nat → Nat → Int → Hp → Prop) (mu8 : Option Addr → Nat → Nat → Int → Hp → Nat), Iq7 none 0 0 (0 : Int) H ∧ ∀ (lp2 : Option Addr) (ll3 : Nat) (lc4 : Nat) (a5 : Int) (Hx6 : Hp), Iq7 lp2 ll3 lc4 a5 Hx6 → NIL r1 fun bq9 oq10 => ldI .i64 (rd Hx6 bq9 oq10) fun x11 => bc ((decide (a5 < x11))) (∃ (Iq15 : Bool → Int → Hp → Prop) (mu16 : Bool → Int → Hp → Nat), Iq15 true (0 : Int) Hx6 ∧ ∀ (first12 : Bool) (bq13 : Int) (Hx14 : Hp), Iq15 first12 bq13 Hx14 → bc ((decide (bq13 < a5))) (bc (first12) (centoref2_Rel_one.C r1 a5 bq13 Hx14 fun r17 Hx18 => CHK .i64 (bq13 + (1 : Int)) fun x22 => Iq15 (!r17) x22 Hx18 ∧ mu16 (!r17) x22 Hx18 < mu16 first12 bq13 Hx14) (CHK .i64 (bq13 + (1 : Int)) fun x25 => Iq15 false x25 Hx14 ∧ mu16 false x25 Hx14 < mu16 first12 bq13 Hx14)) (bc ((!first12)) (CHK .i64 (a5 + (1 : Int)) fun x28 => Iq7 lp2 ll3 lc4 x28 Hx14 ∧ mu8 lp2 ll3 lc4 x28 Hx14 < mu8 lp2 ll3 lc4 a5 Hx6) (∃ (Iq38 : Option Addr → Nat → Nat → Int → Hp → Prop) (mu39 : Option Addr → Nat → Nat → Int → Hp → Nat), Iq38 none 0 0 a5 Hx14 ∧ ∀ (cp33 : Option Addr) (cl34 : Nat) (cc35 : Nat) (bq36 : Int) (Hx37 : Hp), Iq38 cp33 cl34 cc35 bq36 Hx37 → NIL r1 fun bq40 oq41 => ldI .i64 (rd Hx37 bq40 oq41) fun x42 => bc ((decide (bq36 < x42))) (centoref2_Rel_one.C r1 a5 bq36 Hx37 fun r43 Hx44 => bc (r43) (NEW Hx44 ([.int .i64 bq36]) fun bq48 Hx49 => APP Hx49 te_int cp33 cl34 cc35 (.slice (some ⟨bq48, 0, none⟩) 1 1) fun xp50 xl51 xc52 Hx53 => CHK .i64 (bq36 + (1 : Int)) fun x54 => Iq38 xp50 xl51 xc52 x54 Hx53 ∧ mu39 xp50 xl51 xc52 x54 Hx53 < mu39 cp33 cl34 cc35 bq36 Hx37) (CHK .i64 (bq36 + (1 : Int)) fun x59 => Iq38 cp33 cl34 cc35 x59 Hx44 ∧ mu39 cp33 cl34 cc35 x59 Hx44 < mu39 cp33 cl34 cc35 bq36 Hx37)) (NEW Hx37 ([.slice cp33 cl34 cc35]) fun bq64 Hx65 => APP Hx65 te_sl_int lp2 ll3 lc4 (.slice (some ⟨bq64, 0, none⟩) 1 1) fun xp66 xl67 xc68 Hx69 => CHK .i64 (a5 + (1 : Int)) fun x70 => Iq7 xp66 xl67 xc68 x70 Hx69 ∧ mu8 xp66 xl67 xc68 x70 Hx69 < mu8 lp2 ll3 lc4 a5 Hx6)))) (K lp2 ll3 lc4 Hx6)
theorem centoref2_Rel_Circles.vc (r1 : Option Addr) (H : Hp) (K : Option Addr → Nat → Nat → Hp → Prop) : vcFun prog tab centoref2_Rel_Circles.ann none Tryd.f81 (List.map AV.v [.pointer r1]) H (fun v H2 _ => liftL v fun rp78 rl79 rc80 => K rp78 rl79 rc80 H2) = centoref2_Rel_Circles.F r1 H K := by kernel_rfl
theorem centoref2_Rel_Circles.of (r1 : Option Addr) {H : Hp} {K : Option Addr → Nat → Nat → Hp → Prop} (h : centoref2_Rel_Circles.F r1 H K) : centoref2_Rel_Circles.C r1 H K := CallH_of_vc mix tabOk Tryd.func81 (by kernel_rfl) ((centoref2_Rel_Circles.vc r1 H K).mpr h)
-- (*cento/centoref2.Rel).free (82)
def centoref2_Rel_free.ann : Ann := { loops := [(0, [(9, .one (.int .i64))])], pars := [] }
def centoref2_Rel_free.F (r1 : Option Addr) (cp2 : Option Addr) (cl3 : Nat) (_cc4 : Nat) (donep5 : Option Addr) (donel6 : Nat) (_donec7 : Nat) (i8 : Int) (H : Hp) (K : Bool → Hp → Prop) : Prop :=
  ∃ (Iq11 : Int → Hp → Prop) (mu12 : Int → Hp → Nat), Iq11 (0 : Int) H ∧ ∀ (k9 : Int) (Hx10 : Hp), Iq11 k9 Hx10 → bc ((decide (k9 < ((cl3 : Nat) : Int)))) (bc ((decide (¬ k9 = i8))) (IDX k9 donel6 fun k13 => NIL donep5 fun bq14 oq15 => ldB (rd Hx10 bq14 (oq15 + k13)) fun x16 => bc ((!x16)) (NIL r1 fun bq17 oq18 => ldL (rd Hx10 bq17 (oq18 + 1)) fun xp19 xl20 _ => IDX k9 cl3 fun k22 => NIL cp2 fun bq23 oq24 => ldL (rd Hx10 bq23 (oq24 + k22)) fun xp25 xl26 _ => IDX (0 : Int) xl26 fun k28 => NIL xp25 fun bq29 oq30 => ldI .i64 (rd Hx10 bq29 (oq30 + k28)) fun x31 => IDX x31 xl20 fun k32 => NIL xp19 fun bq33 oq34 => ldL (rd Hx10 bq33 (oq34 + k32)) fun xp35 xl36 _ => IDX i8 cl3 fun k38 => NIL cp2 fun bq39 oq40 => ldL (rd Hx10 bq39 (oq40 + k38)) fun xp41 xl42 _ => IDX (0 : Int) xl42 fun k44 => NIL xp41 fun bq45 oq46 => ldI .i64 (rd Hx10 bq45 (oq46 + k44)) fun x47 => IDX x47 xl36 fun k48 => NIL xp35 fun bq49 oq50 => ldB (rd Hx10 bq49 (oq50 + k48)) fun x51 => bc (x51) (K false Hx10) (CHK .i64 (k9 + (1 : Int)) fun x53 => Iq11 x53 Hx10 ∧ mu12 x53 Hx10 < mu12 k9 Hx10)) (CHK .i64 (k9 + (1 : Int)) fun x55 => Iq11 x55 Hx10 ∧ mu12 x55 Hx10 < mu12 k9 Hx10)) (CHK .i64 (k9 + (1 : Int)) fun x57 => Iq11 x57 Hx10 ∧ mu12 x57 Hx10 < mu12 k9 Hx10)) (K true Hx10)
theorem centoref2_Rel_free.vc (r1 : Option Addr) (cp2 : Option Addr) (cl3 : Nat) (cc4 : Nat) (donep5 : Option Addr) (donel6 : Nat) (donec7 : Nat) (i8 : Int) (H : Hp) (K : Bool → Hp → Prop) : vcFun prog tab centoref2_Rel_free.ann none Tryd.f82 (List.map AV.v [.pointer r1, .slice cp2 cl3 cc4, .slice donep5 donel6 donec7, .int .i64 i8]) H (fun v H2 _ => liftB v fun r60 => K r60 H2) = centoref2_Rel_free.F r1 cp2 cl3 cc4 donep5 donel6 donec7 i8 H K := by kernel_rfl
theorem centoref2_Rel_free.of (r1 : Option Addr) (cp2 : Option Addr) (cl3 : Nat) (cc4 : Nat) (donep5 : Option Addr) (donel6 : Nat) (donec7 : Nat) (i8 : Int) {H : Hp} {K : Bool → Hp → Prop} (h : centoref2_Rel_free.F r1 cp2 cl3 cc4 donep5 donel6 donec7 i8 H K) : centoref2_Rel_free.C r1 cp2 cl3 cc4 donep5 donel6 donec7 i8 H K := CallH_of_vc mix tabOk Tryd.func82 (by kernel_rfl) ((centoref2_Rel_free.vc r1 cp2 cl3 cc4 donep5 donel6 donec7 i8 H K).mpr h)
-- cento/order.circles (83)
def order_circles.ann : Ann := { loops := [(0, [(3, .one .slice), (13, .one (.int .i64))])], pars := [(25, .one (.int .i64))] }
def order_circles.k1 (Kbq55 : Al → Hp → Prop) (bq12 : Nat) (bq44 : Nat) (z53 : Int) (t64 : Bool) (Hx65 : Hp) : Prop :=
  bc (t64) (ldL (rd Hx65 bq44 0) fun xp66 xl67 xc68 => NEW Hx65 ([.int .i64 z53]) fun bq69 Hx70 => APP Hx70 te_int xp66 xl67 xc68 (.slice (some ⟨bq69, 0, none⟩) 1 1) fun xp71 xl72 xc73 Hx74 => ST Hx74 bq44 0 (.slice xp71 xl72 xc73) fun Hx75 => ldL (rd Hx75 bq12 0) fun xp76 xl77 _ => IDX z53 xl77 fun k79 => NIL xp76 fun bq80 oq81 => ST Hx75 bq80 (oq81 + k79) (.bool true) fun Hx82 => Kbq55 .on Hx82) (Kbq55 .on Hx65)
def order_circles.F (c1 : Option Addr) (H : Hp) (K : Option Addr → Nat → Nat → Hp → Prop) : Prop :=
  NEW H [.pointer c1] fun bq2 Hx3 => ldP (rd Hx3 bq2 0) fun x4 => rel_Rel_Len.C x4 Hx3 fun r5 Hx6 => ∃ n8 mq9 : Nat, r5 = (n8 : Int) ∧ r5 = (mq9 : Int) ∧ n8 ≤ mq9 ∧ 1 * mq9 ≤ 281474976710656 ∧ mq9 < 9223372036854775808 ∧ (NEW Hx6 (rep mq9 [.bool false]) fun bq10 Hx11 => NEW Hx11 [.slice none 0 0] fun bq12 Hx13 => ST Hx13 bq12 0 (.slice (some ⟨bq10, 0, none⟩) n8 mq9) fun Hx14 => ldL (rd Hx14 bq12 0) fun _ xl16 _ => ∃ (Iq23 : Option Addr → Nat → Nat → Int → Hp → Prop) (mu24 : Option Addr → Nat → Nat → Int → Hp → Nat), Iq23 none 0 0 (0 : Int) Hx14 ∧ ∀ (outp18 : Option Addr) (outl19 : Nat) (outc20 : Nat) (t21 : Int) (Hx22 : Hp), Iq23 outp18 outl19 outc20 t21 Hx22 → bc ((decide (t21 < ((xl16 : Nat) : Int)))) (NEW Hx22 [.int .i64 (0 : Int)] fun bq25 Hx26 => ST Hx26 bq25 0 (.int .i64 t21) fun Hx27 => ldL (rd Hx27 bq12 0) fun xp28 xl29 _ => ldI .i64 (rd Hx27 bq25 0) fun x31 => IDX x31 xl29 fun k32 => NIL xp28 fun bq33 oq34 => ldB (rd Hx27 bq33 (oq34 + k32)) fun x35 => bc (x35) (CHK .i64 (t21 + (1 : Int)) fun x36 => Iq23 outp18 outl19 outc20 x36 Hx27 ∧ mu24 outp18 outl19 outc20 x36 Hx27 < mu24 outp18 outl19 outc20 t21 Hx22) (ldI .i64 (rd Hx27 bq25 0) fun x41 => NEW Hx27 ([.int .i64 x41]) fun bq42 Hx43 => NEW Hx43 [.slice none 0 0] fun bq44 Hx45 => ST Hx45 bq44 0 (.slice (some ⟨bq42, 0, none⟩) 1 1) fun Hx46 => ldP (rd Hx46 bq2 0) fun x47 => ldI .i64 (rd Hx46 bq25 0) fun x48 => rel_Rel_Behind.C x47 x48 Hx46 fun r49 Hx50 => ITERV prog r49 Hx50 (fun vals Hx54 Kbq55 => d1 vals fun w0 => liftI .i64 w0 fun z53 => ldI .i64 (rd Hx54 bq25 0) fun x56 => bc ((decide (x56 < z53))) (ldP (rd Hx54 bq2 0) fun x57 => ldI .i64 (rd Hx54 bq25 0) fun x58 => rel_Rel_Has.C x57 z53 x58 Hx54 fun r59 Hx60 => order_circles.k1 Kbq55 bq12 bq44 z53 r59 Hx60) (order_circles.k1 Kbq55 bq12 bq44 z53 false Hx54)) (fun al85 Hx86 => alC al85 (ldL (rd Hx86 bq44 0) fun xp89 xl90 xc91 => NEW Hx86 ([.slice xp89 xl90 xc91]) fun bq92 Hx93 => APP Hx93 te_sl_int outp18 outl19 outc20 (.slice (some ⟨bq92, 0, none⟩) 1 1) fun xp94 xl95 xc96 Hx97 => CHK .i64 (t21 + (1 : Int)) fun x98 => Iq23 xp94 xl95 xc96 x98 Hx97 ∧ mu24 xp94 xl95 xc96 x98 Hx97 < mu24 outp18 outl19 outc20 t21 Hx22) fun _ _ => True))) (K outp18 outl19 outc20 Hx22))
theorem order_circles.vc (c1 : Option Addr) (H : Hp) (K : Option Addr → Nat → Nat → Hp → Prop) : vcFun prog tab order_circles.ann none Tryd.f83 (List.map AV.v [.pointer c1]) H (fun v H2 _ => liftL v fun rp106 rl107 rc108 => K rp106 rl107 rc108 H2) = order_circles.F c1 H K := by kernel_rfl
theorem order_circles.of (c1 : Option Addr) {H : Hp} {K : Option Addr → Nat → Nat → Hp → Prop} (h : order_circles.F c1 H K) : order_circles.C c1 H K := CallH_of_vc mix tabOk Tryd.func83 (by kernel_rfl) ((order_circles.vc c1 H K).mpr h)
-- cento/order.first (84)
def order_first.ann : Ann := { loops := [(0, [(11, .one (.int .i64))])], pars := [] }
def order_first.F (c1 : Option Addr) (classesp2 : Option Addr) (classesl3 : Nat) (_classesc4 : Nat) (i5 : Int) (H : Hp) (K : Bool → Hp → Prop) : Prop :=
  ∃ (Iq8 : Int → Hp → Prop) (mu9 : Int → Hp → Nat), Iq8 (0 : Int) H ∧ ∀ (t6 : Int) (Hx7 : Hp), Iq8 t6 Hx7 → bc ((decide (t6 < ((classesl3 : Nat) : Int)))) (IDX t6 classesl3 fun k10 => NIL classesp2 fun bq11 oq12 => ldL (rd Hx7 bq11 (oq12 + k10)) fun xp13 xl14 _ => bc ((decide (¬ t6 = i5))) (IDX (0 : Int) xl14 fun k16 => NIL xp13 fun bq17 oq18 => ldI .i64 (rd Hx7 bq17 (oq18 + k16)) fun x19 => IDX i5 classesl3 fun k20 => NIL classesp2 fun bq21 oq22 => ldL (rd Hx7 bq21 (oq22 + k20)) fun xp23 xl24 _ => IDX (0 : Int) xl24 fun k26 => NIL xp23 fun bq27 oq28 => ldI .i64 (rd Hx7 bq27 (oq28 + k26)) fun x29 => rel_Rel_Has.C c1 x19 x29 Hx7 fun r30 Hx31 => bc (r30) (K false Hx31) (CHK .i64 (t6 + (1 : Int)) fun x36 => Iq8 x36 Hx31 ∧ mu9 x36 Hx31 < mu9 t6 Hx7)) (CHK .i64 (t6 + (1 : Int)) fun x38 => Iq8 x38 Hx7 ∧ mu9 x38 Hx7 < mu9 t6 Hx7)) (K true Hx7)
theorem order_first.vc (c1 : Option Addr) (classesp2 : Option Addr) (classesl3 : Nat) (classesc4 : Nat) (i5 : Int) (H : Hp) (K : Bool → Hp → Prop) : vcFun prog tab order_first.ann none Tryd.f84 (List.map AV.v [.pointer c1, .slice classesp2 classesl3 classesc4, .int .i64 i5]) H (fun v H2 _ => liftB v fun r41 => K r41 H2) = order_first.F c1 classesp2 classesl3 classesc4 i5 H K := by kernel_rfl
theorem order_first.of (c1 : Option Addr) (classesp2 : Option Addr) (classesl3 : Nat) (classesc4 : Nat) (i5 : Int) {H : Hp} {K : Bool → Hp → Prop} (h : order_first.F c1 classesp2 classesl3 classesc4 i5 H K) : order_first.C c1 classesp2 classesl3 classesc4 i5 H K := CallH_of_vc mix tabOk Tryd.func84 (by kernel_rfl) ((order_first.vc c1 classesp2 classesl3 classesc4 i5 H K).mpr h)
-- slices.Delete[[][]int,[]int] (85)
def slices_Delete_int_int.ann : Ann := { loops := [], pars := [] }
def slices_Delete_int_int.F (sp1 : Option Addr) (sl2 : Nat) (sc3 : Nat) (i4 : Int) (j5 : Int) (H : Hp) (K : Option Addr → Nat → Nat → Hp → Prop) : Prop :=
  ∃ mq8 : Nat, ((sl2 : Nat) : Int) = (mq8 : Int) ∧ mq8 ≤ sc3 ∧ (BND (some i4) (some j5) sl2 mq8 fun _ _ => bc ((decide (i4 = j5))) (K sp1 sl2 sc3 H) (BND none (some i4) sl2 sc3 fun j12 k13 => BND (some j5) none sl2 sc3 fun j14 k15 => APP H te_sl_int (movA sp1 j12 1 sc3) (k13 - j12) (sc3 - j12) (.slice (movA sp1 j14 1 sc3) (k15 - j14) (sc3 - j14)) fun xp16 xl17 xc18 Hx19 => BND (some ((xl17 : Nat) : Int)) (some ((sl2 : Nat) : Int)) xl17 xc18 fun j20 k21 => CLR Hx19 te_sl_int (movA xp16 j20 1 xc18) (k21 - j20) fun Hx22 => K xp16 xl17 xc18 Hx22))
theorem slices_Delete_int_int.vc (sp1 : Option Addr) (sl2 : Nat) (sc3 : Nat) (i4 : Int) (j5 : Int) (H : Hp) (K : Option Addr → Nat → Nat → Hp → Prop) : vcFun prog tab slices_Delete_int_int.ann none Tryd.f85 (List.map AV.v [.slice sp1 sl2 sc3, .int .i64 i4, .int .i64 j5]) H (fun v H2 _ => liftL v fun rp26 rl27 rc28 => K rp26 rl27 rc28 H2) = slices_Delete_int_int.F sp1 sl2 sc3 i4 j5 H K := by kernel_rfl
theorem slices_Delete_int_int.of (sp1 : Option Addr) (sl2 : Nat) (sc3 : Nat) (i4 : Int) (j5 : Int) {H : Hp} {K : Option Addr → Nat → Nat → Hp → Prop} (h : slices_Delete_int_int.F sp1 sl2 sc3 i4 j5 H K) : slices_Delete_int_int.C sp1 sl2 sc3 i4 j5 H K := CallH_of_vc mix tabOk Tryd.func85 (by kernel_rfl) ((slices_Delete_int_int.vc sp1 sl2 sc3 i4 j5 H K).mpr h)
-- (*cento/bits.Row).Each (86)
def bits_Row_Each.ann : Ann := { loops := [], pars := [] }
def bits_Row_Each.F (r1 : Option Addr) (H : Hp) (K : Value → Hp → Prop) : Prop :=
  NEW H [.pointer r1] fun bq2 Hx3 => K (.func (.func 97) ⟨[]⟩ ⟨[.pointer (some ⟨bq2, 0, none⟩)]⟩) Hx3
theorem bits_Row_Each.vc (r1 : Option Addr) (H : Hp) (K : Value → Hp → Prop) : vcFun prog tab bits_Row_Each.ann none Tryd.f86 (List.map AV.v [.pointer r1]) H (fun v H2 _ => (fun r5 => K r5 H2) v) = bits_Row_Each.F r1 H K := by kernel_rfl
theorem bits_Row_Each.of (r1 : Option Addr) {H : Hp} {K : Value → Hp → Prop} (h : bits_Row_Each.F r1 H K) : bits_Row_Each.C r1 H K := CallH_of_vc mix tabOk Tryd.func86 (by kernel_rfl) ((bits_Row_Each.vc r1 H K).mpr h)
-- (*cento/bits.Row).Len (87)
def bits_Row_Len.ann : Ann := { loops := [], pars := [] }
def bits_Row_Len.F (r1 : Option Addr) (H : Hp) (K : Int → Hp → Prop) : Prop :=
  bc ((decide (r1 = none))) (K (0 : Int) H) (NIL r1 fun bq3 oq4 => ldI .i64 (rd H bq3 oq4) fun x5 => K x5 H)
theorem bits_Row_Len.vc (r1 : Option Addr) (H : Hp) (K : Int → Hp → Prop) : vcFun prog tab bits_Row_Len.ann none Tryd.f87 (List.map AV.v [.pointer r1]) H (fun v H2 _ => liftI .i64 v fun r7 => K r7 H2) = bits_Row_Len.F r1 H K := by kernel_rfl
theorem bits_Row_Len.of (r1 : Option Addr) {H : Hp} {K : Int → Hp → Prop} (h : bits_Row_Len.F r1 H K) : bits_Row_Len.C r1 H K := CallH_of_vc mix tabOk Tryd.func87 (by kernel_rfl) ((bits_Row_Len.vc r1 H K).mpr h)
-- slices.siftDownCmpFunc[cento/api.Edge] (88)
def slices_siftDownCmpFunc_api_Edge.ann : Ann := { loops := [(0, [(10, .one (.int .i64))])], pars := [] }
def slices_siftDownCmpFunc_api_Edge.k1 (Hx9 : Hp) (Iq10 : Int → Hp → Prop) (K : Hp → Prop) (cmp7 : Value) (datal2 : Nat) (datap1 : Option Addr) (first6 : Int) (mu11 : Int → Hp → Nat) (root8 : Int) (child35 : Int) (Hx36 : Hp) : Prop :=
  CHK .i64 (first6 + root8) fun x37 => IDX x37 datal2 fun k38 => NIL datap1 fun bq39 oq40 => ldI .u32 (rd Hx36 bq39 (oq40 + (k38 * 4))) fun x41 => ldI .i64 (rd Hx36 bq39 ((oq40 + (k38 * 4)) + 1)) fun x42 => ldI .u32 (rd Hx36 bq39 (((oq40 + (k38 * 4)) + 1) + 1)) fun x43 => ldI .i64 (rd Hx36 bq39 ((((oq40 + (k38 * 4)) + 1) + 1) + 1)) fun x44 => CHK .i64 (first6 + child35) fun x45 => IDX x45 datal2 fun k46 => NIL datap1 fun bq47 oq48 => ldI .u32 (rd Hx36 bq47 (oq48 + (k46 * 4))) fun x49 => ldI .i64 (rd Hx36 bq47 ((oq48 + (k46 * 4)) + 1)) fun x50 => ldI .u32 (rd Hx36 bq47 (((oq48 + (k46 * 4)) + 1) + 1)) fun x51 => ldI .i64 (rd Hx36 bq47 ((((oq48 + (k46 * 4)) + 1) + 1) + 1)) fun x52 => CallV prog cmp7 [.agg ⟨[.int .u32 x41, .int .i64 x42, .int .u32 x43, .int .i64 x44]⟩, .agg ⟨[.int .u32 x49, .int .i64 x50, .int .u32 x51, .int .i64 x52]⟩] Hx36 fun v Hx54 => liftI .i64 v fun r53 => bc ((!(decide (r53 < (0 : Int))))) (K Hx54) (CHK .i64 (first6 + root8) fun x55 => CHK .i64 (first6 + child35) fun x56 => CHK .i64 (first6 + child35) fun x57 => IDX x57 datal2 fun k58 => NIL datap1 fun bq59 oq60 => ldI .u32 (rd Hx54 bq59 (oq60 + (k58 * 4))) fun x61 => ldI .i64 (rd Hx54 bq59 ((oq60 + (k58 * 4)) + 1)) fun x62 => ldI .u32 (rd Hx54 bq59 (((oq60 + (k58 * 4)) + 1) + 1)) fun x63 => ldI .i64 (rd Hx54 bq59 ((((oq60 + (k58 * 4)) + 1) + 1) + 1)) fun x64 => CHK .i64 (first6 + root8) fun x65 => IDX x65 datal2 fun k66 => NIL datap1 fun bq67 oq68 => ldI .u32 (rd Hx54 bq67 (oq68 + (k66 * 4))) fun x69 => ldI .i64 (rd Hx54 bq67 ((oq68 + (k66 * 4)) + 1)) fun x70 => ldI .u32 (rd Hx54 bq67 (((oq68 + (k66 * 4)) + 1) + 1)) fun x71 => ldI .i64 (rd Hx54 bq67 ((((oq68 + (k66 * 4)) + 1) + 1) + 1)) fun x72 => IDX x55 datal2 fun k73 => NIL datap1 fun bq74 oq75 => ST Hx54 bq74 (oq75 + (k73 * 4)) (.int .u32 x61) fun Hx76 => ST Hx76 bq74 ((oq75 + (k73 * 4)) + 1) (.int .i64 x62) fun Hx77 => ST Hx77 bq74 ((oq75 + (k73 * 4)) + 2) (.int .u32 x63) fun Hx78 => ST Hx78 bq74 ((oq75 + (k73 * 4)) + 3) (.int .i64 x64) fun Hx79 => IDX x56 datal2 fun k80 => NIL datap1 fun bq81 oq82 => ST Hx79 bq81 (oq82 + (k80 * 4)) (.int .u32 x69) fun Hx83 => ST Hx83 bq81 ((oq82 + (k80 * 4)) + 1) (.int .i64 x70) fun Hx84 => ST Hx84 bq81 ((oq82 + (k80 * 4)) + 2) (.int .u32 x71) fun Hx85 => ST Hx85 bq81 ((oq82 + (k80 * 4)) + 3) (.int .i64 x72) fun Hx86 => Iq10 child35 Hx86 ∧ mu11 child35 Hx86 < mu11 root8 Hx9)
def slices_siftDownCmpFunc_api_Edge.F (datap1 : Option Addr) (datal2 : Nat) (_datac3 : Nat) (lo4 : Int) (hi5 : Int) (first6 : Int) (cmp7 : Value) (H : Hp) (K : Hp → Prop) : Prop :=
  ∃ (Iq10 : Int → Hp → Prop) (mu11 : Int → Hp → Nat), Iq10 lo4 H ∧ ∀ (root8 : Int) (Hx9 : Hp), Iq10 root8 Hx9 → CHK .i64 ((2 : Int) * root8) fun x12 => CHK .i64 (x12 + (1 : Int)) fun x13 => bc ((decide (hi5 ≤ x13))) (K Hx9) (CHK .i64 (x13 + (1 : Int)) fun x14 => bc ((decide (x14 < hi5))) (CHK .i64 (first6 + x13) fun x15 => IDX x15 datal2 fun k16 => NIL datap1 fun bq17 oq18 => ldI .u32 (rd Hx9 bq17 (oq18 + (k16 * 4))) fun x19 => ldI .i64 (rd Hx9 bq17 ((oq18 + (k16 * 4)) + 1)) fun x20 => ldI .u32 (rd Hx9 bq17 (((oq18 + (k16 * 4)) + 1) + 1)) fun x21 => ldI .i64 (rd Hx9 bq17 ((((oq18 + (k16 * 4)) + 1) + 1) + 1)) fun x22 => CHK .i64 (first6 + x13) fun x23 => CHK .i64 (x23 + (1 : Int)) fun x24 => IDX x24 datal2 fun k25 => NIL datap1 fun bq26 oq27 => ldI .u32 (rd Hx9 bq26 (oq27 + (k25 * 4))) fun x28 => ldI .i64 (rd Hx9 bq26 ((oq27 + (k25 * 4)) + 1)) fun x29 => ldI .u32 (rd Hx9 bq26 (((oq27 + (k25 * 4)) + 1) + 1)) fun x30 => ldI .i64 (rd Hx9 bq26 ((((oq27 + (k25 * 4)) + 1) + 1) + 1)) fun x31 => CallV prog cmp7 [.agg ⟨[.int .u32 x19, .int .i64 x20, .int .u32 x21, .int .i64 x22]⟩, .agg ⟨[.int .u32 x28, .int .i64 x29, .int .u32 x30, .int .i64 x31]⟩] Hx9 fun v Hx33 => liftI .i64 v fun r32 => bc ((decide (r32 < (0 : Int)))) (CHK .i64 (x13 + (1 : Int)) fun x34 => slices_siftDownCmpFunc_api_Edge.k1 Hx9 Iq10 K cmp7 datal2 datap1 first6 mu11 root8 x34 Hx33) (slices_siftDownCmpFunc_api_Edge.k1 Hx9 Iq10 K cmp7 datal2 datap1 first6 mu11 root8 x13 Hx33)) (slices_siftDownCmpFunc_api_Edge.k1 Hx9 Iq10 K cmp7 datal2 datap1 first6 mu11 root8 x13 Hx9))
theorem slices_siftDownCmpFunc_api_Edge.vc (datap1 : Option Addr) (datal2 : Nat) (datac3 : Nat) (lo4 : Int) (hi5 : Int) (first6 : Int) (cmp7 : Value) (H : Hp) (K : Hp → Prop) : vcFun prog tab slices_siftDownCmpFunc_api_Edge.ann none Tryd.f88 (List.map AV.v [.slice datap1 datal2 datac3, .int .i64 lo4, .int .i64 hi5, .int .i64 first6, cmp7]) H (fun v H2 _ => tupV v fun vs => d0 vs (K H2)) = slices_siftDownCmpFunc_api_Edge.F datap1 datal2 datac3 lo4 hi5 first6 cmp7 H K := by kernel_rfl
theorem slices_siftDownCmpFunc_api_Edge.of (datap1 : Option Addr) (datal2 : Nat) (datac3 : Nat) (lo4 : Int) (hi5 : Int) (first6 : Int) (cmp7 : Value) {H : Hp} {K : Hp → Prop} (h : slices_siftDownCmpFunc_api_Edge.F datap1 datal2 datac3 lo4 hi5 first6 cmp7 H K) : slices_siftDownCmpFunc_api_Edge.C datap1 datal2 datac3 lo4 hi5 first6 cmp7 H K := CallH_of_vc mix tabOk Tryd.func88 (by kernel_rfl) ((slices_siftDownCmpFunc_api_Edge.vc datap1 datal2 datac3 lo4 hi5 first6 cmp7 H K).mpr h)
-- slices.nextPowerOfTwo (89)
def slices_nextPowerOfTwo.ann : Ann := { loops := [], pars := [] }
def slices_nextPowerOfTwo.F (length1 : Int) (H : Hp) (K : Int → Hp → Prop) : Prop :=
  math_bits_Len.C (IntKind.wrap .u64 length1) H fun r2 Hx3 => 0 ≤ r2 ∧ (K (ishl .u64 (1 : Int) r2) Hx3)
theorem slices_nextPowerOfTwo.vc (length1 : Int) (H : Hp) (K : Int → Hp → Prop) : vcFun prog tab slices_nextPowerOfTwo.ann none Tryd.f89 (List.map AV.v [.int .i64 length1]) H (fun v H2 _ => liftI .u64 v fun r6 => K r6 H2) = slices_nextPowerOfTwo.F length1 H K := by kernel_rfl
theorem slices_nextPowerOfTwo.of (length1 : Int) {H : Hp} {K : Int → Hp → Prop} (h : slices_nextPowerOfTwo.F length1 H K) : slices_nextPowerOfTwo.C length1 H K := CallH_of_vc mix tabOk Tryd.func89 (by kernel_rfl) ((slices_nextPowerOfTwo.vc length1 H K).mpr h)
-- (*slices.xorshift).Next (90)
def slices_xorshift_Next.ann : Ann := { loops := [], pars := [] }
def slices_xorshift_Next.F (r1 : Option Addr) (H : Hp) (K : Int → Hp → Prop) : Prop :=
  NIL r1 fun bq2 oq3 => ldI .u64 (rd H bq2 oq3) fun x4 => NIL r1 fun bq5 oq6 => ldI .u64 (rd H bq5 oq6) fun x7 => 0 ≤ (13 : Int) ∧ (NIL r1 fun bq8 oq9 => ST H bq8 oq9 (.int .u64 (ixor .u64 x4 (ishl .u64 x7 (13 : Int)))) fun Hx10 => NIL r1 fun bq11 oq12 => ldI .u64 (rd Hx10 bq11 oq12) fun x13 => NIL r1 fun bq14 oq15 => ldI .u64 (rd Hx10 bq14 oq15) fun x16 => 0 ≤ (7 : Int) ∧ (NIL r1 fun bq17 oq18 => ST Hx10 bq17 oq18 (.int .u64 (ixor .u64 x13 (ishr .u64 x16 (7 : Int)))) fun Hx19 => NIL r1 fun bq20 oq21 => ldI .u64 (rd Hx19 bq20 oq21) fun x22 => NIL r1 fun bq23 oq24 => ldI .u64 (rd Hx19 bq23 oq24) fun x25 => 0 ≤ (17 : Int) ∧ (NIL r1 fun bq26 oq27 => ST Hx19 bq26 oq27 (.int .u64 (ixor .u64 x22 (ishl .u64 x25 (17 : Int)))) fun Hx28 => NIL r1 fun bq29 oq30 => ldI .u64 (rd Hx28 bq29 oq30) fun x31 => K x31 Hx28)))
theorem slices_xorshift_Next.vc (r1 : Option Addr) (H : Hp) (K : Int → Hp → Prop) : vcFun prog tab slices_xorshift_Next.ann none Tryd.f90 (List.map AV.v [.pointer r1]) H (fun v H2 _ => liftI .u64 v fun r33 => K r33 H2) = slices_xorshift_Next.F r1 H K := by kernel_rfl
theorem slices_xorshift_Next.of (r1 : Option Addr) {H : Hp} {K : Int → Hp → Prop} (h : slices_xorshift_Next.F r1 H K) : slices_xorshift_Next.C r1 H K := CallH_of_vc mix tabOk Tryd.func90 (by kernel_rfl) ((slices_xorshift_Next.vc r1 H K).mpr h)
-- slices.medianAdjacentCmpFunc[cento/api.Edge] (91)
def slices_medianAdjacentCmpFunc_api_Edge.ann : Ann := { loops := [], pars := [] }
def slices_medianAdjacentCmpFunc_api_Edge.F (datap1 : Option Addr) (datal2 : Nat) (datac3 : Nat) (a4 : Int) (swaps5 : Option Addr) (cmp6 : Value) (H : Hp) (K : Int → Hp → Prop) : Prop :=
  CHK .i64 (a4 - (1 : Int)) fun x7 => CHK .i64 (a4 + (1 : Int)) fun x8 => slices_medianCmpFunc_api_Edge.C datap1 datal2 datac3 x7 a4 x8 swaps5 (cmp6) H fun r9 Hx10 => K r9 Hx10
theorem slices_medianAdjacentCmpFunc_api_Edge.vc (datap1 : Option Addr) (datal2 : Nat) (datac3 : Nat) (a4 : Int) (swaps5 : Option Addr) (cmp6 : Value) (H : Hp) (K : Int → Hp → Prop) : vcFun prog tab slices_medianAdjacentCmpFunc_api_Edge.ann none Tryd.f91 (List.map AV.v [.slice datap1 datal2 datac3, .int .i64 a4, .pointer swaps5, cmp6]) H (fun v H2 _ => liftI .i64 v fun r20 => K r20 H2) = slices_medianAdjacentCmpFunc_api_Edge.F datap1 datal2 datac3 a4 swaps5 cmp6 H K := by kernel_rfl
theorem slices_medianAdjacentCmpFunc_api_Edge.of (datap1 : Option Addr) (datal2 : Nat) (datac3 : Nat) (a4 : Int) (swaps5 : Option Addr) (cmp6 : Value) {H : Hp} {K : Int → Hp → Prop} (h : slices_medianAdjacentCmpFunc_api_Edge.F datap1 datal2 datac3 a4 swaps5 cmp6 H K) : slices_medianAdjacentCmpFunc_api_Edge.C datap1 datal2 datac3 a4 swaps5 cmp6 H K := CallH_of_vc mix tabOk Tryd.func91 (by kernel_rfl) ((slices_medianAdjacentCmpFunc_api_Edge.vc datap1 datal2 datac3 a4 swaps5 cmp6 H K).mpr h)
-- slices.medianCmpFunc[cento/api.Edge] (92)
def slices_medianCmpFunc_api_Edge.ann : Ann := { loops := [], pars := [] }
def slices_medianCmpFunc_api_Edge.F (datap1 : Option Addr) (datal2 : Nat) (datac3 : Nat) (a4 : Int) (bq5 : Int) (c6 : Int) (swaps7 : Option Addr) (cmp8 : Value) (H : Hp) (K : Int → Hp → Prop) : Prop :=
  slices_order2CmpFunc_api_Edge.C datap1 datal2 datac3 a4 bq5 swaps7 (cmp8) H fun r9 r10 Hx11 => slices_order2CmpFunc_api_Edge.C datap1 datal2 datac3 r10 c6 swaps7 (cmp8) Hx11 fun r19 _ Hx21 => slices_order2CmpFunc_api_Edge.C datap1 datal2 datac3 r9 r19 swaps7 (cmp8) Hx21 fun _ r30 Hx31 => K r30 Hx31
theorem slices_medianCmpFunc_api_Edge.vc (datap1 : Option Addr) (datal2 : Nat) (datac3 : Nat) (a4 : Int) (bq5 : Int) (c6 : Int) (swaps7 : Option Addr) (cmp8 : Value) (H : Hp) (K : Int → Hp → Prop) : vcFun prog tab slices_medianCmpFunc_api_Edge.ann none Tryd.f92 (List.map AV.v [.slice datap1 datal2 datac3, .int .i64 a4, .int .i64 bq5, .int .i64 c6, .pointer swaps7, cmp8]) H (fun v H2 _ => liftI .i64 v fun r40 => K r40 H2) = slices_medianCmpFunc_api_Edge.F datap1 datal2 datac3 a4 bq5 c6 swaps7 cmp8 H K := by kernel_rfl
theorem slices_medianCmpFunc_api_Edge.of (datap1 : Option Addr) (datal2 : Nat) (datac3 : Nat) (a4 : Int) (bq5 : Int) (c6 : Int) (swaps7 : Option Addr) (cmp8 : Value) {H : Hp} {K : Int → Hp → Prop} (h : slices_medianCmpFunc_api_Edge.F datap1 datal2 datac3 a4 bq5 c6 swaps7 cmp8 H K) : slices_medianCmpFunc_api_Edge.C datap1 datal2 datac3 a4 bq5 c6 swaps7 cmp8 H K := CallH_of_vc mix tabOk Tryd.func92 (by kernel_rfl) ((slices_medianCmpFunc_api_Edge.vc datap1 datal2 datac3 a4 bq5 c6 swaps7 cmp8 H K).mpr h)
-- cmp.isNaN[uint32] (93)
def cmp_isNaN_uint32.ann : Ann := { loops := [], pars := [] }
def cmp_isNaN_uint32.F (x1 : Int) (H : Hp) (K : Bool → Hp → Prop) : Prop :=
  K (decide (¬ x1 = x1)) H
theorem cmp_isNaN_uint32.vc (x1 : Int) (H : Hp) (K : Bool → Hp → Prop) : vcFun prog tab cmp_isNaN_uint32.ann none Tryd.f93 (List.map AV.v [.int .u32 x1]) H (fun v H2 _ => liftB v fun r3 => K r3 H2) = cmp_isNaN_uint32.F x1 H K := by kernel_rfl
theorem cmp_isNaN_uint32.of (x1 : Int) {H : Hp} {K : Bool → Hp → Prop} (h : cmp_isNaN_uint32.F x1 H K) : cmp_isNaN_uint32.C x1 H K := CallH_of_vc mix tabOk Tryd.func93 (by kernel_rfl) ((cmp_isNaN_uint32.vc x1 H K).mpr h)
-- cmp.isNaN[int] (94)
def cmp_isNaN_int.ann : Ann := { loops := [], pars := [] }
def cmp_isNaN_int.F (x1 : Int) (H : Hp) (K : Bool → Hp → Prop) : Prop :=
  K (decide (¬ x1 = x1)) H
theorem cmp_isNaN_int.vc (x1 : Int) (H : Hp) (K : Bool → Hp → Prop) : vcFun prog tab cmp_isNaN_int.ann none Tryd.f94 (List.map AV.v [.int .i64 x1]) H (fun v H2 _ => liftB v fun r3 => K r3 H2) = cmp_isNaN_int.F x1 H K := by kernel_rfl
theorem cmp_isNaN_int.of (x1 : Int) {H : Hp} {K : Bool → Hp → Prop} (h : cmp_isNaN_int.F x1 H K) : cmp_isNaN_int.C x1 H K := CallH_of_vc mix tabOk Tryd.func94 (by kernel_rfl) ((cmp_isNaN_int.vc x1 H K).mpr h)
-- (*cento/centoref2.Rel).one (95)
def centoref2_Rel_one.ann : Ann := { loops := [], pars := [] }
def centoref2_Rel_one.F (r1 : Option Addr) (a2 : Int) (bq3 : Int) (H : Hp) (K : Bool → Hp → Prop) : Prop :=
  bc ((decide (a2 = bq3))) (K true H) (NIL r1 fun bq5 oq6 => ldL (rd H bq5 (oq6 + 1)) fun xp7 xl8 _ => IDX a2 xl8 fun k10 => NIL xp7 fun bq11 oq12 => ldL (rd H bq11 (oq12 + k10)) fun xp13 xl14 _ => IDX bq3 xl14 fun k16 => NIL xp13 fun bq17 oq18 => ldB (rd H bq17 (oq18 + k16)) fun x19 => bc (x19) (NIL r1 fun bq20 oq21 => ldL (rd H bq20 (oq21 + 1)) fun xp22 xl23 _ => IDX bq3 xl23 fun k25 => NIL xp22 fun bq26 oq27 => ldL (rd H bq26 (oq27 + k25)) fun xp28 xl29 _ => IDX a2 xl29 fun k31 => NIL xp28 fun bq32 oq33 => ldB (rd H bq32 (oq33 + k31)) fun x34 => K x34 H) (K false H))
theorem centoref2_Rel_one.vc (r1 : Option Addr) (a2 : Int) (bq3 : Int) (H : Hp) (K : Bool → Hp → Prop) : vcFun prog tab centoref2_Rel_one.ann none Tryd.f95 (List.map AV.v [.pointer r1, .int .i64 a2, .int .i64 bq3]) H (fun v H2 _ => liftB v fun r37 => K r37 H2) = centoref2_Rel_one.F r1 a2 bq3 H K := by kernel_rfl
theorem centoref2_Rel_one.of (r1 : Option Addr) (a2 : Int) (bq3 : Int) {H : Hp} {K : Bool → Hp → Prop} (h : centoref2_Rel_one.F r1 a2 bq3 H K) : centoref2_Rel_one.C r1 a2 bq3 H K := CallH_of_vc mix tabOk Tryd.func95 (by kernel_rfl) ((centoref2_Rel_one.vc r1 a2 bq3 H K).mpr h)
-- (*cento/rel.Rel).Behind (96)
def rel_Rel_Behind.ann : Ann := { loops := [], pars := [] }
def rel_Rel_Behind.F (r1 : Option Addr) (a2 : Int) (H : Hp) (K : Value → Hp → Prop) : Prop :=
  rel_Rel_there.C r1 a2 H fun r3 Hx4 => bc ((!r3)) (K (.func (.func 100) ⟨[]⟩ ⟨[]⟩) Hx4) (NIL r1 fun bq8 oq9 => ldL (rd Hx4 bq8 oq9) fun xp10 xl11 _ => IDX a2 xl11 fun k13 => NIL xp10 fun bq14 oq15 => ldP (rd Hx4 bq14 (oq15 + k13)) fun x16 => bits_Row_Each.C x16 Hx4 fun r17 Hx18 => K (r17) Hx18)
theorem rel_Rel_Behind.vc (r1 : Option Addr) (a2 : Int) (H : Hp) (K : Value → Hp → Prop) : vcFun prog tab rel_Rel_Behind.ann none Tryd.f96 (List.map AV.v [.pointer r1, .int .i64 a2]) H (fun v H2 _ => (fun r21 => K r21 H2) v) = rel_Rel_Behind.F r1 a2 H K := by kernel_rfl
theorem rel_Rel_Behind.of (r1 : Option Addr) (a2 : Int) {H : Hp} {K : Value → Hp → Prop} (h : rel_Rel_Behind.F r1 a2 H K) : rel_Rel_Behind.C r1 a2 H K := CallH_of_vc mix tabOk Tryd.func96 (by kernel_rfl) ((rel_Rel_Behind.vc r1 a2 H K).mpr h)
-- (*cento/bits.Row).Each$1 (97)
def bits_Row_Each_1.ann : Ann := { loops := [(0, [(12, .one (.int .i64))]), (2, [(4, .one (.int .u64))])], pars := [] }
def bits_Row_Each_1.F (cap2 : Nat) (H : Hp) (G : Int → Hp → (Al → Hp → Prop) → Prop) (K : Al → Hp → Prop) : Prop :=
  ldP (rd H cap2 0) fun x3 => bc ((decide (x3 = none))) (K .on H) (ldP (rd H cap2 0) fun x4 => NIL x4 fun bq5 oq6 => ldL (rd H bq5 (oq6 + 1)) fun xp7 xl8 _ => ∃ (Iq12 : Int → Hp → Prop) (mu13 : Int → Hp → Nat), Iq12 (0 : Int) H ∧ ∀ (t10 : Int) (Hx11 : Hp), Iq12 t10 Hx11 → bc ((decide (t10 < ((xl8 : Nat) : Int)))) (IDX t10 xl8 fun k14 => NIL xp7 fun bq15 oq16 => ldI .u64 (rd Hx11 bq15 (oq16 + k14)) fun x17 => ∃ (Iq20 : Int → Hp → Prop) (mu21 : Int → Hp → Nat), Iq20 x17 Hx11 ∧ ∀ (w18 : Int) (Hx19 : Hp), Iq20 w18 Hx19 → bc ((decide (¬ w18 = (0 : Int)))) (CHK .i64 (t10 * (64 : Int)) fun x22 => math_bits_TrailingZeros64.C w18 Hx19 fun r23 Hx24 => CHK .i64 (x22 + r23) fun x26 => G x26 Hx24 fun al31 Hx29 => alC al31 (Iq20 (iand .u64 w18 (IntKind.wrap .u64 (w18 - (1 : Int)))) Hx29 ∧ mu21 (iand .u64 w18 (IntKind.wrap .u64 (w18 - (1 : Int)))) Hx29 < mu21 w18 Hx19) fun j27 up28 => K (.off j27 up28) Hx29) (CHK .i64 (t10 + (1 : Int)) fun x34 => Iq12 x34 Hx19 ∧ mu13 x34 Hx19 < mu13 t10 Hx11)) (K .on Hx11))
theorem bits_Row_Each_1.vc (Lq : Nat) (cap2 : Nat) (H : Hp) (G : Int → Hp → (Al → Hp → Prop) → Prop) (K : Al → Hp → Prop) : vcFun prog tab bits_Row_Each_1.ann (some ⟨Lq, fun vals H Kb => d1 vals fun w0 => liftI .i64 w0 fun z36 => G z36 H Kb⟩) Tryd.f97 (List.map AV.v [] ++ (AV.Y :: List.map AV.v [.pointer (some ⟨cap2, 0, none⟩)])) H (fun _ H2 al => K al H2) = bits_Row_Each_1.F cap2 H G K := by kernel_rfl
theorem bits_Row_Each_1.of (cap2 : Nat) {H : Hp} {G : Int → Hp → (Al → Hp → Prop) → Prop} {K : Al → Hp → Prop} (h : bits_Row_Each_1.F cap2 H G K) : bits_Row_Each_1.I cap2 H G K := ITER_of_vc mix tabOk Tryd.func97 (by kernel_rfl) fun Lq => (bits_Row_Each_1.vc Lq cap2 H G K).mpr h
-- math/bits.TrailingZeros64 (98)
def math_bits_TrailingZeros64.ann : Ann := { loops := [], pars := [] }
def math_bits_TrailingZeros64.F (x1 : Int) (H : Hp) (K : Int → Hp → Prop) : Prop :=
  bc ((decide (x1 = (0 : Int)))) (K (64 : Int) H) (0 ≤ (58 : Int) ∧ (IDX (ishr .u64 (IntKind.wrap .u64 ((iand .u64 x1 (IntKind.wrap .u64 (0 - x1))) * (285870213051353865 : Int))) (58 : Int)) 64 fun k3 => ldI .u8 (rd H 0 (0 + k3)) fun x4 => CHK .i64 x4 fun x5 => K x5 H))
theorem math_bits_TrailingZeros64.vc (x1 : Int) (H : Hp) (K : Int → Hp → Prop) : vcFun prog tab math_bits_TrailingZeros64.ann none Tryd.f98 (List.map AV.v [.int .u64 x1]) H (fun v H2 _ => liftI .i64 v fun r7 => K r7 H2) = math_bits_TrailingZeros64.F x1 H K := by kernel_rfl
theorem math_bits_TrailingZeros64.of (x1 : Int) {H : Hp} {K : Int → Hp → Prop} (h : math_bits_TrailingZeros64.F x1 H K) : math_bits_TrailingZeros64.C x1 H K := CallH_of_vc mix tabOk Tryd.func98 (by kernel_rfl) ((math_bits_TrailingZeros64.vc x1 H K).mpr h)
-- slices.order2CmpFunc[cento/api.Edge] (99)
def slices_order2CmpFunc_api_Edge.ann : Ann := { loops := [], pars := [] }
def slices_order2CmpFunc_api_Edge.F (datap1 : Option Addr) (datal2 : Nat) (_datac3 : Nat) (a4 : Int) (bq5 : Int) (swaps6 : Option Addr) (cmp7 : Value) (H : Hp) (K : Int → Int → Hp → Prop) : Prop :=
  IDX bq5 datal2 fun k8 => NIL datap1 fun bq9 oq10 => ldI .u32 (rd H bq9 (oq10 + (k8 * 4))) fun x11 => ldI .i64 (rd H bq9 ((oq10 + (k8 * 4)) + 1)) fun x12 => ldI .u32 (rd H bq9 (((oq10 + (k8 * 4)) + 1) + 1)) fun x13 => ldI .i64 (rd H bq9 ((((oq10 + (k8 * 4)) + 1) + 1) + 1)) fun x14 => IDX a4 datal2 fun k15 => NIL datap1 fun bq16 oq17 => ldI .u32 (rd H bq16 (oq17 + (k15 * 4))) fun x18 => ldI .i64 (rd H bq16 ((oq17 + (k15 * 4)) + 1)) fun x19 => ldI .u32 (rd H bq16 (((oq17 + (k15 * 4)) + 1) + 1)) fun x20 => ldI .i64 (rd H bq16 ((((oq17 + (k15 * 4)) + 1) + 1) + 1)) fun x21 => CallV prog cmp7 [.agg ⟨[.int .u32 x11, .int .i64 x12, .int .u32 x13, .int .i64 x14]⟩, .agg ⟨[.int .u32 x18, .int .i64 x19, .int .u32 x20, .int .i64 x21]⟩] H fun v Hx23 => liftI .i64 v fun r22 => bc ((decide (r22 < (0 : Int)))) (NIL swaps6 fun bq24 oq25 => ldI .i64 (rd Hx23 bq24 oq25) fun x26 => CHK .i64 (x26 + (1 : Int)) fun x27 => NIL swaps6 fun bq28 oq29 => ST Hx23 bq28 oq29 (.int .i64 x27) fun Hx30 => K bq5 a4 Hx30) (K a4 bq5 Hx23)
theorem slices_order2CmpFunc_api_Edge.vc (datap1 : Option Addr) (datal2 : Nat) (datac3 : Nat) (a4 : Int) (bq5 : Int) (swaps6 : Option Addr) (cmp7 : Value) (H : Hp) (K : Int → Int → Hp → Prop) : vcFun prog tab slices_order2CmpFunc_api_Edge.ann none Tryd.f99 (List.map AV.v [.slice datap1 datal2 datac3, .int .i64 a4, .int .i64 bq5, .pointer swaps6, cmp7]) H (fun v H2 _ => tupV v fun vs => d2 vs fun wv0 wv1 => liftI .i64 wv0 fun r35 => liftI .i64 wv1 fun r36 => K r35 r36 H2) = slices_order2CmpFunc_api_Edge.F datap1 datal2 datac3 a4 bq5 swaps6 cmp7 H K := by kernel_rfl
theorem slices_order2CmpFunc_api_Edge.of (datap1 : Option Addr) (datal2 : Nat) (datac3 : Nat) (a4 : Int) (bq5 : Int) (swaps6 : Option Addr) (cmp7 : Value) {H : Hp} {K : Int → Int → Hp → Prop} (h : slices_order2CmpFunc_api_Edge.F datap1 datal2 datac3 a4 bq5 swaps6 cmp7 H K) : slices_order2CmpFunc_api_Edge.C datap1 datal2 datac3 a4 bq5 swaps6 cmp7 H K := CallH_of_vc mix tabOk Tryd.func99 (by kernel_rfl) ((slices_order2CmpFunc_api_Edge.vc datap1 datal2 datac3 a4 bq5 swaps6 cmp7 H K).mpr h)
-- (*cento/rel.Rel).Behind$1 (100)
def rel_Rel_Behind_1.ann : Ann := { loops := [], pars := [] }
def rel_Rel_Behind_1.F  (H : Hp) (_G : Int → Hp → (Al → Hp → Prop) → Prop) (K : Al → Hp → Prop) : Prop :=
  K .on H
theorem rel_Rel_Behind_1.vc (Lq : Nat)  (H : Hp) (G : Int → Hp → (Al → Hp → Prop) → Prop) (K : Al → Hp → Prop) : vcFun prog tab rel_Rel_Behind_1.ann (some ⟨Lq, fun vals H Kb => d1 vals fun w0 => liftI .i64 w0 fun z2 => G z2 H Kb⟩) Tryd.f100 (List.map AV.v [] ++ (AV.Y :: List.map AV.v [])) H (fun _ H2 al => K al H2) = rel_Rel_Behind_1.F  H G K := by kernel_rfl
theorem rel_Rel_Behind_1.of  {H : Hp} {G : Int → Hp → (Al → Hp → Prop) → Prop} {K : Al → Hp → Prop} (h : rel_Rel_Behind_1.F  H G K) : rel_Rel_Behind_1.I  H G K := ITER_of_vc mix tabOk Tryd.func100 (by kernel_rfl) fun Lq => (rel_Rel_Behind_1.vc Lq  H G K).mpr h
end Go.Proofs.YtganockeifkecaaDoor
namespace Go.Proofs.YtganockeifkecaaDoor
open Go.V
/-! ### Rows of bits -/
/-- The table of math/bits. -/
def Tz (H : Hp) : Prop := ∀ i, i < 64 → rd H gTab i = some (.int .u8 ((Lib.deBruijn64tab.getD i 0 : Nat) : Int))
theorem Tz.mod {O : List Nat} {H H' : Hp} (h : Tz H) (hm : Mod O H H') (hg : gTab ∉ O) : Tz H' := fun i hi => hm.rd hg (h i hi)
theorem Tz.le {H H' : Hp} (h : Tz H) (hm : Le H H') : Tz H' := fun i hi => hm.rd (h i hi)
theorem Tz.there {H : Hp} (h : Tz H) : H gTab ≠ none := ne_none_of_rd (h 0 (by decide))

theorem math_bits_TrailingZeros64.c {x : Nat} {H : Hp} {K : Int → Hp → Prop} (hT : Tz H) (h0 : x ≠ 0) (hx : x < 18446744073709551616) (hK : K (Lib.ctz 64 x : Nat) H) : math_bits_TrailingZeros64.C x H K := by
  apply math_bits_TrailingZeros64.of
  refine bcd (fun h => absurd h (by omega)) fun _ => ?_
  have hk := (Lib.lowest_bit 64 x h0 (by omega)).2
  obtain ⟨hi, htab⟩ := Lib.deBruijn64_at _ hk
  have key := tz_key h0 hx
  refine ⟨by decide, ?_⟩
  have hc := hT _ hi
  rw [htab] at hc
  refine idxN _ key hi ?_
  refine ldI_i (by rw [Nat.zero_add]; exact hc) ?_
  exact chk (by omega) hK

/-- Element i of a row of words. -/
def wbit (w : List Nat) (i : Nat) : Bool := (w.getD (i / 64) 0).testBit (i % 64)
/-- Block r is a row of n bits, its words in block q; s tells which are on. -/
structure BR (H : Hp) (r q n : Nat) (s : Nat → Bool) : Prop where
  tz : Tz H
  gq : q ≠ gTab
  rq : r ≠ q
  lim : n ≤ 1000
  row : ∃ (w : List Nat) (c : Nat), (∀ x ∈ w, x < 18446744073709551616) ∧ w.length = (n + 63) / 64 ∧ w.length ≤ c ∧ rd H r 0 = some (.int .i64 (n : Nat)) ∧ rd H r 1 = some (.slice (some ⟨q, 0, none⟩) w.length c) ∧ (∃ cs, H q = some cs) ∧
    (∀ j (h : j < w.length), rd H q j = some (.int .u64 (w[j] : Nat))) ∧ ∀ i, s i = wbit w i
  out : ∀ i, n ≤ i → s i = false

section
variable {H H' : Hp} {r q n : Nat} {s : Nat → Bool} {O : List Nat}
theorem BR.mod (h : BR H r q n s) (hm : Mod O H H') (hr : r ∉ O) (hq : q ∉ O) (hg : gTab ∉ O) : BR H' r q n s := by
  obtain ⟨h1, h2, h3, h4, ⟨w, c, g1, g2, g3, g4, g5, ⟨cs, g6⟩, g7, g8⟩, h6⟩ := h
  exact ⟨h1.mod hm hg, h2, h3, h4, ⟨w, c, g1, g2, g3, hm.rd hr g4, hm.rd hr g5, ⟨cs, hm _ hq _ g6⟩, fun j hj => hm.rd hq (g7 j hj), g8⟩, h6⟩
theorem BR.le (h : BR H r q n s) (hm : Le H H') : BR H' r q n s := h.mod hm.mod (O := []) (by simp) (by simp) (by simp)
theorem BR.hr (h : BR H r q n s) : H r ≠ none := by obtain ⟨w, c, _, _, _, g, _⟩ := h.row; exact ne_none_of_rd g
theorem BR.hq (h : BR H r q n s) : H q ≠ none := by obtain ⟨w, c, _, _, _, _, _, ⟨cs, g⟩, _⟩ := h.row; rw [g]; intro e; cases e
theorem BR.congr {s' : Nat → Bool} (h : BR H r q n s) (e : ∀ i, s' i = s i) : BR H r q n s' := by
  have : s' = s := funext e
  rw [this]; exact h
end

theorem bits_Row_Len.c {r q n : Nat} {s : Nat → Bool} {H : Hp} {K : Int → Hp → Prop} (hu : BR H r q n s) (hK : K (n : Nat) H) : bits_Row_Len.C (some ⟨r, 0, none⟩) H K := by
  apply bits_Row_Len.of
  obtain ⟨w, c, g1, g2, g3, g4, _⟩ := hu.row
  refine bcd (fun h => by cases h) fun _ => ?_
  exact nil (ldI_i g4 hK)
theorem bits_Row_Len.nil {H : Hp} {K : Int → Hp → Prop} (hK : K 0 H) : bits_Row_Len.C none H K := by
  apply bits_Row_Len.of
  exact bcd (fun _ => hK) fun h => absurd rfl h

theorem bits_Row_there.c {r q n : Nat} {s : Nat → Bool} {i : Int} {H : Hp} {K : Bool → Hp → Prop} (hu : BR H r q n s) (hK : K (decide (0 ≤ i ∧ i < (n : Int))) H) : bits_Row_there.C (some ⟨r, 0, none⟩) i H K := by
  apply bits_Row_there.of
  refine bcd (fun h => ?_) fun h => ?_
  · refine bits_Row_Len.c hu ?_
    have e : decide (0 ≤ i ∧ i < (n : Int)) = decide (i < (n : Int)) := decide_eq_decide.2 ⟨fun g => g.2, fun g => ⟨h, g⟩⟩
    rw [← e]; exact hK
  · rwa [decide_eq_false (fun g => h g.1)] at hK
theorem bits_Row_there.nil {i : Int} {H : Hp} {K : Bool → Hp → Prop} (hK : K false H) : bits_Row_there.C none i H K := by
  apply bits_Row_there.of
  refine bcd (fun h => ?_) fun h => hK
  refine bits_Row_Len.nil ?_
  rwa [decide_eq_false (by omega)]

/-- Is bit i on? -/
def hasB (s : Nat → Bool) (i : Int) : Bool := decide (0 ≤ i) && s i.toNat
theorem hasB_nat {s : Nat → Bool} {i : Nat} : hasB s (i : Int) = s i := by simp [hasB]
theorem tdiv64 {i : Nat} : Int.tdiv (i : Int) 64 = ((i / 64 : Nat) : Int) := by rw [Int.tdiv_eq_ediv_of_nonneg (by omega)]; omega
theorem tmod64 {i : Nat} : Int.tmod (i : Int) 64 = ((i % 64 : Nat) : Int) := by rw [Int.tmod_eq_emod_of_nonneg (by omega)]; omega

theorem bits_Row_Has.c {r q n : Nat} {s : Nat → Bool} {i : Int} {H : Hp} {K : Bool → Hp → Prop} (hu : BR H r q n s) (hK : K (hasB s i) H) : bits_Row_Has.C (some ⟨r, 0, none⟩) i H K := by
  apply bits_Row_Has.of
  refine bits_Row_there.c hu ?_
  refine bcd (fun h => ?_) (fun h => ?_)
  · obtain ⟨i, rfl⟩ : ∃ k : Nat, i = k := ⟨i.toNat, by omega⟩
    obtain ⟨w, c, g1, g2, g3, g4, g5, g6, g7, g8⟩ := hu.row
    have hn := hu.lim
    have hj : i / 64 < w.length := by omega
    refine nil ?_
    refine ldL_i g5 ?_
    refine ⟨by decide, ?_⟩
    rw [tdiv64, tmod64]
    refine chk (by omega) ?_
    refine idx hj ?_
    refine nil ?_
    refine ldI_i (by rw [Nat.zero_add]; exact g7 _ hj) ?_
    refine ⟨by decide, by omega, ?_⟩
    rw [bit_test (g1 _ (List.getElem_mem hj)) (Nat.mod_lt _ (by decide))]
    rw [hasB_nat, g8, wbit] at hK
    simpa [List.getD, hj] using hK
  · have : hasB s i = false := by
      unfold hasB
      by_cases h0 : 0 ≤ i
      · rw [hu.out _ (by omega)]; simp
      · simp [h0]
    rwa [this] at hK
theorem bits_Row_Has.nil {i : Int} {H : Hp} {K : Bool → Hp → Prop} (hK : K false H) : bits_Row_Has.C none i H K := by
  apply bits_Row_Has.of
  exact bits_Row_there.nil (bcF hK)

/-- Bit i put on or off. -/
def putB (s : Nat → Bool) (n : Nat) (i : Int) (on : Bool) : Nat → Bool := fun j => if (j : Int) = i ∧ j < n then on else s j

theorem wbit_set {w : List Nat} {i v : Nat} (hi : i / 64 < w.length) (hv : ∀ j, j < 64 → j ≠ i % 64 → v.testBit j = w[i / 64].testBit j) (j : Nat) : wbit (w.set (i / 64) v) j = if j = i then v.testBit (i % 64) else wbit w j := by
  unfold wbit
  simp only [List.getD, List.getElem?_set]
  by_cases e : i / 64 = j / 64
  · rw [if_pos e, if_pos hi]
    simp only [Option.getD_some]
    split
    · subst_vars; rfl
    · have : j / 64 < w.length := by omega
      rw [hv _ (Nat.mod_lt _ (by decide)) (by omega)]
      have e2 : w[j / 64]? = some w[i / 64] := by rw [← e]; simp [hi]
      rw [e2]; rfl
  · rw [if_neg e, if_neg (by intro h; subst h; exact e rfl)]

theorem BR.putw {r q n i v : Nat} {s : Nat → Bool} {on : Bool} {H : Hp} (hu : BR H r q n s) (hin : i < n) {w : List Nat} {c : Nat} (g1 : ∀ x ∈ w, x < 18446744073709551616) (g2 : w.length = (n + 63) / 64) (g3 : w.length ≤ c) (g4 : rd H r 0 = some (.int .i64 (n : Nat)))
    (g5 : rd H r 1 = some (.slice (some ⟨q, 0, none⟩) w.length c)) (g6 : ∃ cs, H q = some cs) (g7 : ∀ j (h : j < w.length), rd H q j = some (.int .u64 (w[j] : Nat))) (g8 : ∀ i, s i = wbit w i) (hi : i / 64 < w.length) (hvl : v < 18446744073709551616)
    (hv : ∀ j, j < 64 → j ≠ i % 64 → v.testBit j = w[i / 64].testBit j) (hon : v.testBit (i % 64) = on) : BR (wr H q (i / 64) (.int .u64 (v : Nat))) r q n (putB s n i on) := by
  refine ⟨hu.tz.mod (O := [q]) (Mod.refl.wr (.inl (by simp))) (by simpa using hu.gq.symm), hu.gq, hu.rq, hu.lim, ⟨w.set (i / 64) v, c, fun x hx => ?_, by simpa using g2, by simpa using g3, ?_, ?_, ?_, fun j hj => ?_, fun j => ?_⟩, fun j hj => ?_⟩
  · rcases List.mem_or_eq_of_mem_set hx with hx | rfl
    · exact g1 x hx
    · exact hvl
  · rw [rd_wr_ne hu.rq]; exact g4
  · rw [rd_wr_ne hu.rq]; simpa using g5
  · obtain ⟨cs, g6⟩ := g6
    exact ⟨_, by unfold wr; rw [if_pos rfl, g6]; rfl⟩
  · by_cases e : j = i / 64
    · subst e; rw [rd_wr_self (g7 _ hi)]; simp
    · rw [rd_wr_off e, g7 _ (by simpa using hj)]; simp [Ne.symm e]
  · rw [wbit_set hi hv, putB, hon, ← g8]
    by_cases e : j = i
    · subst e; rw [if_pos rfl, if_pos ⟨rfl, hin⟩]
    · rw [if_neg e, if_neg (fun g => e (by omega))]
  · rw [putB, if_neg (by omega)]; exact hu.out j hj

theorem bits_Row_Put.c {r q n : Nat} {s : Nat → Bool} {i : Int} {on : Bool} {H : Hp} {K : Hp → Prop} (hu : BR H r q n s) (hK : ∀ H', BR H' r q n (putB s n i on) → Mod [q] H H' → (∀ j, j ≠ i.toNat / 64 → rd H' q j = rd H q j) → K H') : bits_Row_Put.C (some ⟨r, 0, none⟩) i on H K := by
  apply bits_Row_Put.of
  refine bits_Row_there.c hu ?_
  refine bcn (fun h => ?_) (fun h => ?_)
  · have e : putB s n i on = s := funext fun j => by
      have := of_decide_eq_false h
      rw [putB, if_neg (by omega)]
    refine hK H (by rw [e]; exact hu) .refl (fun _ _ => rfl)
  · have h := of_decide_eq_true h
    obtain ⟨i, rfl⟩ : ∃ k : Nat, i = k := ⟨i.toNat, by omega⟩
    obtain ⟨w, c, g1, g2, g3, g4, g5, g6, g7, g8⟩ := hu.row
    have hn := hu.lim
    have hj : i / 64 < w.length := by omega
    have hm : i % 64 < 64 := Nat.mod_lt _ (by decide)
    have hw := g1 _ (List.getElem_mem hj)
    have hp := two_pow_lt hm
    have mq : ∀ v, Mod [q] H (wr H q (i / 64) v) := fun v => Mod.refl.wr (.inl (by simp))
    refine bc_i (fun hon => ?_) (fun hon => ?_)
    · refine nil ?_
      refine ldL_i g5 ?_
      refine ⟨by decide, ?_⟩
      rw [tdiv64, tmod64]
      refine chk (by omega) ?_
      refine idx hj ?_
      refine nil ?_
      refine ldI_i (by rw [Nat.zero_add]; exact g7 _ hj) ?_
      refine ⟨by decide, by omega, ?_⟩
      refine idx hj ?_
      refine nil ?_
      rw [ishl_one hm, ior_nat hw hp]
      refine st0 (g7 _ hj) (hK _ (hu.putw (by omega) g1 g2 g3 g4 g5 g6 g7 g8 hj ?_ (fun j hj' hne => ?_) ?_) (mq _) (fun j hj' => rd_wr_off (by simpa using hj')))
      · have : w[i / 64] ||| 2 ^ (i % 64) < 2 ^ 64 := Nat.or_lt_two_pow (by omega) (by omega)
        omega
      · rw [or_bit]; simp; intro h; omega
      · rw [or_bit, hon]; simp
    · refine nil ?_
      refine ldL_i g5 ?_
      refine ⟨by decide, ?_⟩
      rw [tdiv64, tmod64]
      refine chk (by omega) ?_
      refine idx hj ?_
      refine nil ?_
      refine ldI_i (by rw [Nat.zero_add]; exact g7 _ hj) ?_
      refine ⟨by decide, by omega, ?_⟩
      refine idx hj ?_
      refine nil ?_
      rw [ishl_one hm, inot_nat hw hp]
      refine st0 (g7 _ hj) (hK _ (hu.putw (by omega) g1 g2 g3 g4 g5 g6 g7 g8 hj (andNot_lt hw) (fun j hj' hne => ?_) ?_) (mq _) (fun j hj' => rd_wr_off (by simpa using hj')))
      · rw [andNot_bit hw hm]; simp; intro _ h; omega
      · rw [andNot_bit hw hm, hon]; simp

theorem bits_New.c {n : Int} {H : Hp} {K : Option Addr → Hp → Prop} (hT : Tz H)
    (hK : ∀ r q H', BR H' r q (min (max n 0) 1000).toNat (fun _ => false) → H r = none → H q = none → Le H H' → K (some ⟨r, 0, none⟩) H') : bits_New.C n H K := by
  apply bits_New.of
  obtain ⟨m, hm⟩ : ∃ m : Nat, min (max n 0) 1000 = (m : Int) := ⟨(min (max n 0) 1000).toNat, by omega⟩
  unfold bits_New.F
  rw [hm] at hK ⊢
  rw [Int.toNat_natCast] at hK
  refine chk (by omega) (chk (by omega) ⟨by decide, ?_⟩)
  have e : Int.tdiv ((m : Int) + 64 - 1) 64 = (((m + 63) / 64 : Nat) : Int) := by rw [Int.tdiv_eq_ediv_of_nonneg (by omega)]; omega
  rw [e]
  refine chk (by omega) ?_
  refine mk rfl (by omega) (by omega) ?_
  intro q hq r hr
  have hqr : r ≠ q := fun e => by subst e; simp [upd] at hr
  have le2 : Le H (upd (upd H q (rep ((m + 63) / 64) [.int .u64 0])) r [.int .i64 m, .slice (some ⟨q, 0, none⟩) ((m + 63) / 64) ((m + 63) / 64)]) := (Le.upd hq).trans (.upd hr)
  refine hK r q _ ⟨hT.le le2, fun e => hT.there (e ▸ hq), hqr, by omega, ⟨List.replicate ((m + 63) / 64) 0, (m + 63) / 64, fun x hx => by rw [(List.mem_replicate.1 hx).2]; decide, by simp, by simp, by rw [rd_upd_self]; rfl, by rw [rd_upd_self]; simp [nmO], ?_, fun j hj => ?_, fun i => ?_⟩, fun _ _ => rfl⟩ (none_of_le (.upd hq) hr) hq le2
  · exact ⟨_, by rw [upd_ne (Ne.symm hqr)]; unfold upd; rw [if_pos rfl]⟩
  · simp only [List.length_replicate] at hj
    rw [rd_upd_ne (Ne.symm hqr), rd_rep hj]; simp
  · unfold wbit
    have : (List.replicate ((m + 63) / 64) 0).getD (i / 64) 0 = 0 := by
      simp only [List.getD, List.getElem?_replicate]
      split <;> rfl
    rw [this]; simp

end Go.Proofs.YtganockeifkecaaDoor
namespace Go.Proofs.YtganockeifkecaaDoor
open Go.V
/-! ### Through the bits that are on -/
theorem each_rule {cap r q n : Nat} {s : Nat → Bool} {H : Hp} {G : Int → Hp → (Al → Hp → Prop) → Prop} {K : Al → Hp → Prop} (I : Nat → Hp → Prop) (hb : BR H r q n s) (hc : rd H cap 0 = some (.pointer (some ⟨r, 0, none⟩))) (h0 : I 0 H)
    (hfr : ∀ i Hx, I i Hx → Tz Hx ∧ ∀ j, i ≤ 64 * j → j < (n + 63) / 64 → rd Hx q j = rd H q j)
    (hskip : ∀ i Hx, s i = false → I i Hx → I (i + 1) Hx)
    (hstep : ∀ i Hx Kb, i < n → s i = true → I i Hx → (∀ H', I (i + 1) H' → Kb Al.on H') → (∀ j up H', K (Al.off j up) H' → Kb (Al.off j up) H') → G (i : Nat) Hx Kb)
    (hend : ∀ i Hx, n ≤ i → I i Hx → K Al.on Hx) : bits_Row_Each_1.I cap H G K := by
  apply bits_Row_Each_1.of
  obtain ⟨w, c, g1, g2, g3, g4, g5, g6, g7, g8⟩ := hb.row
  have hn := hb.lim
  have skips : ∀ d i Hx, (∀ j, i ≤ j → j < i + d → s j = false) → I i Hx → I (i + d) Hx := by
    intro d
    induction d with
    | zero => intro i Hx _ h; exact h
    | succ d ih => intro i Hx h hI; exact hskip _ _ (h (i + d) (by omega) (by omega)) (ih i Hx (fun j a b => h j a (by omega)) hI)
  refine ldP_i hc (bcd (fun h => by cases h) fun _ => ?_)
  refine ldP_i hc (nil ?_)
  refine ldL_i (by rw [Nat.zero_add]; exact g5) ?_
  refine ⟨fun t Hx => ∃ k : Nat, t = k ∧ k ≤ w.length ∧ I (64 * k) Hx, fun t _ => (w.length - t).toNat, ⟨0, rfl, by omega, h0⟩, ?_⟩
  rintro t H1 ⟨k, rfl, hk, hI⟩
  refine bcd (fun h => ?_) (fun h => ?_)
  · have hk' : k < w.length := by omega
    have hwk := g1 _ (List.getElem_mem hk')
    have hsk : ∀ b, b < 64 → s (64 * k + b) = w[k].testBit b := fun b hb' => by
      rw [g8, wbit, show (64 * k + b) / 64 = k by omega, show (64 * k + b) % 64 = b by omega]
      simp [List.getD, hk']
    refine idx hk' ?_
    refine nil ?_
    refine ldI_i (by rw [Nat.zero_add, (hfr _ _ hI).2 k (Nat.le_refl _) (by omega)]; exact g7 _ hk') ?_
    refine ⟨fun v Hx => ∃ i x : Nat, v = x ∧ 64 * k ≤ i ∧ i ≤ 64 * (k + 1) ∧ I i Hx ∧ x < 18446744073709551616 ∧ ∀ b, x.testBit b = (decide (i ≤ 64 * k + b) && w[k].testBit b), fun v _ => v.toNat,
      ⟨64 * k, w[k], rfl, Nat.le_refl _, by omega, hI, hwk, fun b => by simp⟩, ?_⟩
    rintro v H2 ⟨i, x, rfl, hi1, hi2, hI2, hx, hbit⟩
    refine bcd (fun hne => ?_) (fun heq => ?_)
    · have hx0 : x ≠ 0 := by omega
      obtain ⟨c1, c2, c3, c4, c5⟩ := ctz_spec hx0 hx
      refine chk (by omega) ?_
      refine math_bits_TrailingZeros64.c (hfr _ _ hI2).1 hx0 hx ?_
      refine chk (by omega) ?_
      generalize Lib.ctz 64 x = z at *
      have hz := hbit z
      rw [c2] at hz
      have hz' := hz.symm
      rw [Bool.and_eq_true, decide_eq_true_eq] at hz'
      have hse : s (64 * k + z) = true := by rw [hsk z c1]; exact hz'.2
      have hen : 64 * k + z < n := by
        apply Nat.lt_of_not_le
        intro h; rw [hb.out _ h] at hse; cases hse
      have hIe : I (64 * k + z) H2 := by
        have := skips (64 * k + z - i) i H2 (fun j a b => by
          have e : j = 64 * k + (j - 64 * k) := by omega
          have h1 := c3 (j - 64 * k) (by omega)
          rw [hbit, Bool.and_eq_false_imp] at h1
          rw [e, hsk _ (by omega)]
          exact h1 (decide_eq_true (by omega))) hI2
        rwa [show i + (64 * k + z - i) = 64 * k + z by omega] at this
      rw [show ((k : Int) * 64 + (z : Int)) = ((64 * k + z : Nat) : Int) by omega]
      refine hstep _ H2 _ hen hse hIe (fun H' hI' => alOn ?_) (fun j up H' h => h)
      have e1 : IntKind.wrap .u64 ((x : Int) - 1) = ((x - 1 : Nat) : Int) := by rw [u64w (by omega)]; omega
      rw [e1, iand_nat hx (by omega)]
      refine ⟨⟨64 * k + z + 1, x &&& (x - 1), rfl, by omega, by omega, hI', by omega, fun b => ?_⟩, by dsimp only; omega⟩
      rw [c4, hbit]
      by_cases h1 : z < b
      · have : i ≤ 64 * k + b := by omega
        have h2 : 64 * k + z + 1 ≤ 64 * k + b := by omega
        simp [h1, this, h2]
      · have h2 : ¬ 64 * k + z + 1 ≤ 64 * k + b := by omega
        simp [h1, h2]
    · have hx0 : x = 0 := by omega
      subst hx0
      have := skips (64 * (k + 1) - i) i H2 (fun j a b => by
        have e : j = 64 * k + (j - 64 * k) := by omega
        have h1 := hbit (j - 64 * k)
        rw [Nat.zero_testBit] at h1
        have h2 := h1.symm
        rw [Bool.and_eq_false_imp] at h2
        rw [e, hsk _ (by omega)]
        exact h2 (decide_eq_true (by omega))) hI2
      rw [show i + (64 * (k + 1) - i) = 64 * (k + 1) by omega] at this
      exact chk (by omega) ⟨⟨k + 1, by omega, by omega, this⟩, by first | omega | (dsimp only; omega)⟩
  · obtain rfl : k = w.length := by omega
    exact hend _ _ (by omega) hI
theorem each_nil {cap : Nat} {H : Hp} {G : Int → Hp → (Al → Hp → Prop) → Prop} {K : Al → Hp → Prop} (hc : rd H cap 0 = some (.pointer none)) (hK : K .on H) : bits_Row_Each_1.I cap H G K := by
  apply bits_Row_Each_1.of
  exact ldP_i hc (bcd (fun _ => hK) fun h => absurd rfl h)

theorem bits_Row_Each.c {p : Option Addr} {H : Hp} {K : Value → Hp → Prop} (hK : ∀ cap H', H cap = none → rd H' cap 0 = some (.pointer p) → Le H H' → K (.func (.func bits_Row_Each_1.num) ⟨[]⟩ ⟨[.pointer (some ⟨cap, 0, none⟩)]⟩) H') : bits_Row_Each.C p H K := by
  apply bits_Row_Each.of
  intro cap hcap
  exact hK cap _ hcap (by rw [rd_upd_self]; rfl) (.upd hcap)

/-- The bits that are on below i. -/
def els (s : Nat → Bool) (i : Nat) : List Nat := (List.range i).filter s
theorem els_on {s : Nat → Bool} {i : Nat} (h : s i = true) : els s (i + 1) = els s i ++ [i] := by unfold els; rw [List.range_succ, List.filter_append]; simp [h]
theorem els_off {s : Nat → Bool} {i : Nat} (h : s i = false) : els s (i + 1) = els s i := by unfold els; rw [List.range_succ, List.filter_append]; simp [h]
theorem els_end {s : Nat → Bool} {n i : Nat} (h : ∀ j, n ≤ j → s j = false) (hi : n ≤ i) : els s i = els s n := by
  induction i with
  | zero => have : n = 0 := by omega
            rw [this]
  | succ i ih =>
    by_cases e : n = i + 1
    · rw [e]
    · rw [els_off (h i (by omega)), ih (by omega)]
theorem els_len_le (s : Nat → Bool) (i : Nat) : (els s i).length ≤ i := by unfold els; have := List.length_filter_le s (List.range i); simpa using this
theorem els_mem {s : Nat → Bool} {i x : Nat} : x ∈ els s i ↔ x < i ∧ s x = true := by unfold els; simp

theorem eq_of_le {H H' : Hp} (h : Le H H') {b : Nat} (hb : H b ≠ none) : H' b = H b := by
  cases e : H b with
  | none => exact absurd e hb
  | some c => exact h b c e
theorem eq_of_mod {H H' : Hp} {O : List Nat} (h : Mod O H H') {b : Nat} (ho : b ∉ O) (hb : H b ≠ none) : H' b = H b := by
  cases e : H b with
  | none => exact absurd e hb
  | some c => exact h b ho c e

/-- Joined as far as i. -/
def orB (s t : Nat → Bool) (n i : Nat) : Nat → Bool := fun j => s j || (decide (j < i ∧ j < n) && t j)
def grewB (s t : Nat → Bool) (n i : Nat) : Bool := (List.range i).any fun j => decide (j < n) && t j && !s j
theorem orB_skip {s t : Nat → Bool} {n i : Nat} (h : i < n → t i = true → s i = true) : orB s t n (i + 1) = orB s t n i := by
  funext j
  unfold orB
  by_cases e : j = i
  · subst e
    by_cases hn : j < n
    · cases hs : s j
      · cases ht : t j
        · simp
        · rw [h hn ht] at hs; cases hs
      · simp
    · simp [hn]
  · have : (j < i + 1 ∧ j < n) ↔ (j < i ∧ j < n) := by omega
    rw [decide_eq_decide.2 this]
theorem orB_put {s t : Nat → Bool} {n i : Nat} (hi : i < n) (ht : t i = true) : putB (orB s t n i) n (i : Int) true = orB s t n (i + 1) := by
  funext j
  unfold putB orB
  by_cases e : j = i
  · subst e; rw [if_pos ⟨rfl, hi⟩]; simp [ht, hi]
  · rw [if_neg (by omega)]
    have : (j < i + 1 ∧ j < n) ↔ (j < i ∧ j < n) := by omega
    rw [decide_eq_decide.2 this]
theorem grewB_succ {s t : Nat → Bool} {n i : Nat} : grewB s t n (i + 1) = (grewB s t n i || (decide (i < n) && t i && !s i)) := by unfold grewB; rw [List.range_succ, List.any_append]; simp

theorem bits_Row_Or.c {r q n r' q' m : Nat} {s t : Nat → Bool} {H : Hp} {K : Bool → Hp → Prop} (hu : BR H r q n s) (hv : BR H r' q' m t) (hq : q' ∉ [q])
    (hK : ∀ H', BR H' r q n (orB s t n n) → Mod [q] H H' → K (grewB s t n n) H') : bits_Row_Or.C (some ⟨r, 0, none⟩) (some ⟨r', 0, none⟩) H K := by
  apply bits_Row_Or.of
  intro b3 h3 b5 h5
  have le1 : Le H (upd H b3 [.pointer (some ⟨r, 0, none⟩)]) := .upd h3
  have n35 : b3 ≠ b5 := fun e => by subst e; simp [upd] at h5
  have r5 : rd (upd (upd H b3 [.pointer (some ⟨r, 0, none⟩)]) b5 [.bool false]) b5 0 = some (.bool false) := by rw [rd_upd_self]; rfl
  have h5' := none_of_le le1 h5
  refine st r5 ?_
  have le2 : Le H (wr (upd (upd H b3 [.pointer (some ⟨r, 0, none⟩)]) b5 [.bool false]) b5 0 (.bool false)) := (le1.trans (.upd h5)).wr h5'
  have r5' : rd (wr (upd (upd H b3 [.pointer (some ⟨r, 0, none⟩)]) b5 [.bool false]) b5 0 (.bool false)) b5 0 = some (.bool false) := rd_wr_self r5
  have r3' : rd (wr (upd (upd H b3 [.pointer (some ⟨r, 0, none⟩)]) b5 [.bool false]) b5 0 (.bool false)) b3 0 = some (.pointer (some ⟨r, 0, none⟩)) := by rw [rd_wr_ne n35, rd_upd_ne n35, rd_upd_self]; rfl
  generalize wr (upd (upd H b3 [.pointer (some ⟨r, 0, none⟩)]) b5 [.bool false]) b5 0 (.bool false) = H2 at *
  refine bits_Row_Each.c fun cap H3 hcap hrc le3 => ?_
  have le23 := le2.trans le3
  have hg : gTab ∉ [q] := by simpa using hu.gq.symm
  have b3q : b3 ∉ [q] := by simpa using (ne_of_none hu.hq h3).symm
  have b5q : b5 ∉ [q] := by simpa using (ne_of_none hu.hq h5').symm
  show bits_Row_Each_1.I cap H3 _ _
  refine each_rule (fun i Hx => BR Hx r q n (orB s t n i) ∧ Mod [q] H Hx ∧ rd Hx b3 0 = some (.pointer (some ⟨r, 0, none⟩)) ∧ rd Hx b5 0 = some (.bool (grewB s t n i))) (hv.le le23) hrc
    ⟨(hu.le le23).congr fun j => by simp [orB], le23.mod, le3.rd r3', by simpa [grewB] using le3.rd r5'⟩ ?_ ?_ ?_ ?_
  · rintro i Hx ⟨u1, m1, h1, h2⟩
    refine ⟨u1.tz, fun j _ _ => ?_⟩
    rw [rd_eq (eq_of_mod m1 hq hv.hq), rd_eq (eq_of_le le23 hv.hq)]
  · rintro i Hx hs ⟨u1, m1, h1, h2⟩
    refine ⟨u1.congr fun j => by rw [orB_skip (fun _ h => by rw [hs] at h; cases h)], m1, h1, ?_⟩
    rw [grewB_succ, hs]; simpa using h2
  · rintro i Hx Kb hi hs ⟨u1, m1, h1, h2⟩ hon _
    have no : (i < n → s i = true) → Kb .on Hx := fun h => hon Hx ⟨u1.congr fun j => by rw [orB_skip (fun a _ => h a)], m1, h1, by
      rw [grewB_succ]
      have : (decide (i < n) && t i && !s i) = false := by
        by_cases hin : i < n
        · simp [h hin]
        · simp [hin]
      rw [this, Bool.or_false]; exact h2⟩
    refine ldP_i h1 ?_
    refine bits_Row_there.c u1 ?_
    refine bcd (fun hin => ?_) (fun hin => bcF (no fun h => absurd ⟨by omega, by omega⟩ hin))
    have hin' : i < n := by omega
    refine ldP_i h1 ?_
    refine bits_Row_Has.c u1 ?_
    rw [hasB_nat]
    have e0 : orB s t n i i = s i := by simp [orB]
    rw [e0]
    refine bcn (fun hsi => ?_) (fun hsi => no fun _ => hsi)
    refine ldP_i h1 ?_
    refine bits_Row_Put.c u1 fun H4 u4 m4 _ => ?_
    rw [orB_put hin' hs] at u4
    have h2' := m4.rd b5q h2
    have m5 : Mod [b5] H4 (wr H4 b5 0 (.bool true)) := Mod.refl.wr (.inl (by simp))
    have a1 : r ∉ [b5] := by simpa using ne_of_none hu.hr h5'
    have a2 : q ∉ [b5] := by simpa using ne_of_none hu.hq h5'
    have a3 : gTab ∉ [b5] := by simpa using ne_of_none hu.tz.there h5'
    refine st h2' (hon _ ⟨u4.mod m5 a1 a2 a3, (m1.trans m4).wr (.inr h5'), ?_, ?_⟩)
    · rw [rd_wr_ne n35]; exact m4.rd b3q h1
    · rw [rd_wr_self h2', grewB_succ, hs, hsi]; simp [hin']
  · rintro i Hx hi ⟨u1, m1, h1, h2⟩
    have e1 : orB s t n i = orB s t n n := by
      funext j
      unfold orB
      by_cases hj : j < n
      · by_cases hji : j < i
        · simp [hj, hji]
        · have := hv.out j (by omega); simp [this]
      · simp [hj]
    have e2 : ∀ k, grewB s t n (n + k) = grewB s t n n := fun k => by
      induction k with
      | zero => rfl
      | succ k ih => rw [← Nat.add_assoc, grewB_succ, ih, decide_eq_false (show ¬ n + k < n by omega)]; simp
    have e3 : grewB s t n i = grewB s t n n := by
      rcases Nat.le_total n i with h | h
      · have := e2 (i - n); rwa [show n + (i - n) = i by omega] at this
      · have : ∀ k, i + k ≤ n → grewB s t n (i + k) = grewB s t n i := fun k => by
          induction k with
          | zero => intro _; rfl
          | succ k ih => intro hk; rw [← Nat.add_assoc, grewB_succ, ih (by omega), hv.out (i + k) (by omega)]; simp
        have := this (n - i) (by omega)
        rw [show i + (n - i) = n by omega] at this
        exact this.symm
    rw [e1] at u1
    rw [e3] at h2
    exact alOn (ldB_i h2 (hK Hx u1 m1))

theorem bits_Row_Or.nil {r q n : Nat} {s : Nat → Bool} {H : Hp} {K : Bool → Hp → Prop} (_ : BR H r q n s) (hK : ∀ H', Le H H' → K false H') : bits_Row_Or.C (some ⟨r, 0, none⟩) none H K := by
  apply bits_Row_Or.of
  intro b3 h3 b5 h5
  have le1 : Le H (upd H b3 [.pointer (some ⟨r, 0, none⟩)]) := .upd h3
  have r5 : rd (upd (upd H b3 [.pointer (some ⟨r, 0, none⟩)]) b5 [.bool false]) b5 0 = some (.bool false) := by rw [rd_upd_self]; rfl
  have h5' := none_of_le le1 h5
  refine st r5 ?_
  have le2 : Le H (wr (upd (upd H b3 [.pointer (some ⟨r, 0, none⟩)]) b5 [.bool false]) b5 0 (.bool false)) := (le1.trans (.upd h5)).wr h5'
  have r5' : rd (wr (upd (upd H b3 [.pointer (some ⟨r, 0, none⟩)]) b5 [.bool false]) b5 0 (.bool false)) b5 0 = some (.bool false) := rd_wr_self r5
  generalize wr (upd (upd H b3 [.pointer (some ⟨r, 0, none⟩)]) b5 [.bool false]) b5 0 (.bool false) = H2 at *
  refine bits_Row_Each.c fun cap H3 hcap hrc le3 => ?_
  show bits_Row_Each_1.I cap H3 _ _
  exact each_nil hrc (alOn (ldB_i (le3.rd r5') (hK H3 (le2.trans le3))))

/-- With itself nothing comes of it. -/
theorem bits_Row_Or.self {r q n : Nat} {s : Nat → Bool} {H : Hp} {K : Bool → Hp → Prop} (hu : BR H r q n s) (hK : ∀ H', Le H H' → K false H') : bits_Row_Or.C (some ⟨r, 0, none⟩) (some ⟨r, 0, none⟩) H K := by
  apply bits_Row_Or.of
  intro b3 h3 b5 h5
  have le1 : Le H (upd H b3 [.pointer (some ⟨r, 0, none⟩)]) := .upd h3
  have n35 : b3 ≠ b5 := fun e => by subst e; simp [upd] at h5
  have r5 : rd (upd (upd H b3 [.pointer (some ⟨r, 0, none⟩)]) b5 [.bool false]) b5 0 = some (.bool false) := by rw [rd_upd_self]; rfl
  have h5' := none_of_le le1 h5
  refine st r5 ?_
  have le2 : Le H (wr (upd (upd H b3 [.pointer (some ⟨r, 0, none⟩)]) b5 [.bool false]) b5 0 (.bool false)) := (le1.trans (.upd h5)).wr h5'
  have r5' : rd (wr (upd (upd H b3 [.pointer (some ⟨r, 0, none⟩)]) b5 [.bool false]) b5 0 (.bool false)) b5 0 = some (.bool false) := rd_wr_self r5
  have r3' : rd (wr (upd (upd H b3 [.pointer (some ⟨r, 0, none⟩)]) b5 [.bool false]) b5 0 (.bool false)) b3 0 = some (.pointer (some ⟨r, 0, none⟩)) := by rw [rd_wr_ne n35, rd_upd_ne n35, rd_upd_self]; rfl
  generalize wr (upd (upd H b3 [.pointer (some ⟨r, 0, none⟩)]) b5 [.bool false]) b5 0 (.bool false) = H2 at *
  refine bits_Row_Each.c fun cap H3 hcap hrc le3 => ?_
  have le23 := le2.trans le3
  have u3 := hu.le le23
  have r5'' := le3.rd r5'
  have r3'' := le3.rd r3'
  show bits_Row_Each_1.I cap H3 _ _
  refine each_rule (fun i Hx => H3 = Hx) u3 hrc rfl ?_ ?_ ?_ ?_
  · rintro i _ rfl; exact ⟨u3.tz, fun _ _ _ => rfl⟩
  · rintro i _ _ rfl; rfl
  · rintro i _ Kb hi hs rfl hon _
    refine ldP_i r3'' ?_
    refine bits_Row_there.c u3 ?_
    refine bcd (fun hin => ?_) (fun hin => bcF (hon _ rfl))
    refine ldP_i r3'' ?_
    refine bits_Row_Has.c u3 ?_
    rw [hasB_nat, hs]
    exact bcF (hon _ rfl)
  · rintro i _ hi rfl
    exact alOn (ldB_i r5'' (hK _ le23))

/-- Cut as far as i. -/
def andB (s t : Nat → Bool) (i : Nat) : Nat → Bool := fun j => s j && (decide (i ≤ j) || t j)
/-- Alike below n. -/
def sameB (s t : Nat → Bool) (n : Nat) : Bool := (List.range n).all fun i => s i == t i
theorem sameB_iff {s t : Nat → Bool} {n : Nat} : sameB s t n = true ↔ ∀ i, i < n → s i = t i := by unfold sameB; simp
/-- A new row is made where it is none of what there was. -/
theorem BR.new {H H' : Hp} {r q n r' q' : Nat} {s : Nat → Bool} (hu : BR H r q n s) (hr : H r' = none) (hq : H q' = none) (_ : Le H H') : r ∉ [q'] ∧ q ∉ [q'] ∧ r' ∉ [q] ∧ q' ∉ [q] ∧ gTab ∉ [q'] :=
  ⟨by simpa using ne_of_none hu.hr hq, by simpa using ne_of_none hu.hq hq, by simpa using (ne_of_none hu.hq hr).symm, by simpa using (ne_of_none hu.hq hq).symm, by simpa using ne_of_none hu.tz.there hq⟩
theorem none1 {H : Hp} {q : Nat} (h : H q = none) : ∀ b ∈ [q], H b = none := fun b hb => by simp at hb; subst hb; exact h

theorem putB_nat {s : Nat → Bool} {n i j : Nat} {on : Bool} : putB s n (i : Int) on j = if j = i ∧ j < n then on else s j := by
  unfold putB
  by_cases h : j = i
  · subst h; simp
  · rw [if_neg (by omega), if_neg (fun g => h g.1)]
end Go.Proofs.YtganockeifkecaaDoor
namespace Go.Proofs.YtganockeifkecaaDoor
open Go.V
/-! ### Relations -/
theorem nodup_inj {l : List Nat} (h : l.Nodup) {i j : Nat} (hi : i < l.length) (hj : j < l.length) (e : l[i] = l[j]) : i = j := by
  rcases Nat.lt_trichotomy i j with h1 | h1 | h1
  · exact absurd e (List.pairwise_iff_getElem.1 h i j hi hj h1)
  · exact h1
  · exact absurd e.symm (List.pairwise_iff_getElem.1 h j i hj hi h1)
/-- Relation R: its rows lie in block B, row i is rs[i], its words qs[i]; M tells who is ahead of whom. -/
structure RL (H : Hp) (R B : Nat) (rs qs : List Nat) (n : Nat) (M : Nat → Nat → Bool) : Prop where
  tz : Tz H
  lim : n ≤ 200
  lr : rs.length = n
  lq : qs.length = n
  hd : ∃ c, rd H R 0 = some (.slice (some ⟨B, 0, none⟩) n c) ∧ n ≤ c
  hB : ∃ cs, H B = some cs
  ptr : ∀ i (h : i < rs.length), rd H B i = some (.pointer (some ⟨rs[i], 0, none⟩))
  row : ∀ i (h : i < rs.length) (h' : i < qs.length), BR H rs[i] qs[i] n (M i)
  out : ∀ a b, n ≤ a → M a b = false
  nd : (R :: B :: (rs ++ qs)).Nodup
  g : gTab ∉ R :: B :: (rs ++ qs)
def RLO (H : Hp) (R : Nat) (O : List Nat) (n : Nat) (M : Nat → Nat → Bool) : Prop := ∃ B rs qs, O = R :: B :: (rs ++ qs) ∧ RL H R B rs qs n M

theorem RL.mod {H H' : Hp} {R B : Nat} {rs qs : List Nat} {n : Nat} {M : Nat → Nat → Bool} {O : List Nat} (h : RL H R B rs qs n M) (hm : Mod O H H') (hd : ∀ b ∈ O, b ∉ R :: B :: (rs ++ qs)) (hg : gTab ∉ O) : RL H' R B rs qs n M := by
  have hR : R ∉ O := fun hb => hd R hb (by simp)
  have hB : B ∉ O := fun hb => hd B hb (by simp)
  obtain ⟨c, h1, h2⟩ := h.hd
  obtain ⟨cs, h3⟩ := h.hB
  refine ⟨h.tz.mod hm hg, h.lim, h.lr, h.lq, ⟨c, hm.rd hR h1, h2⟩, ⟨cs, hm _ hB _ h3⟩, fun i hi => hm.rd hB (h.ptr i hi), fun i hi hi' => (h.row i hi hi').mod hm (fun hb => ?_) (fun hb => ?_) hg, h.out, h.nd, h.g⟩
  · exact hd _ hb (by simp)
  · exact hd _ hb (by simp)
theorem RLO.mod {H H' : Hp} {R : Nat} {n : Nat} {M : Nat → Nat → Bool} {O P : List Nat} (h : RLO H R O n M) (hm : Mod P H H') (hd : ∀ b ∈ P, b ∉ O) (hg : gTab ∉ P) : RLO H' R O n M := by
  obtain ⟨B, rs, qs, rfl, h⟩ := h
  exact ⟨B, rs, qs, rfl, h.mod hm hd hg⟩
theorem RLO.le {H H' : Hp} {R : Nat} {n : Nat} {M : Nat → Nat → Bool} {O : List Nat} (h : RLO H R O n M) (hm : Le H H') : RLO H' R O n M := h.mod (P := []) hm.mod (by simp) (by simp)
theorem RLO.tz {H : Hp} {R : Nat} {n : Nat} {M : Nat → Nat → Bool} {O : List Nat} (h : RLO H R O n M) : Tz H := by obtain ⟨B, rs, qs, rfl, h⟩ := h; exact h.tz
theorem RLO.g {H : Hp} {R : Nat} {n : Nat} {M : Nat → Nat → Bool} {O : List Nat} (h : RLO H R O n M) : gTab ∉ O := by obtain ⟨B, rs, qs, rfl, h⟩ := h; exact h.g
theorem RLO.lim {H : Hp} {R : Nat} {n : Nat} {M : Nat → Nat → Bool} {O : List Nat} (h : RLO H R O n M) : n ≤ 200 := by obtain ⟨B, rs, qs, rfl, h⟩ := h; exact h.lim
theorem RLO.there {H : Hp} {R : Nat} {n : Nat} {M : Nat → Nat → Bool} {O : List Nat} (h : RLO H R O n M) : ∀ b ∈ O, H b ≠ none := by
  obtain ⟨B, rs, qs, rfl, h⟩ := h
  intro b hb
  rcases List.mem_cons.1 hb with rfl | hb
  · obtain ⟨c, h1, _⟩ := h.hd; exact ne_none_of_rd h1
  rcases List.mem_cons.1 hb with rfl | hb
  · obtain ⟨cs, h1⟩ := h.hB; rw [h1]; intro e; cases e
  rcases List.mem_append.1 hb with hb | hb
  · obtain ⟨i, hi, rfl⟩ := List.mem_iff_getElem.1 hb
    exact (h.row i hi (by rw [h.lq, ← h.lr]; exact hi)).hr
  · obtain ⟨i, hi, rfl⟩ := List.mem_iff_getElem.1 hb
    exact (h.row i (by rw [h.lr, ← h.lq]; exact hi) hi).hq
theorem RLO.out {H : Hp} {R : Nat} {n : Nat} {M : Nat → Nat → Bool} {O : List Nat} (h : RLO H R O n M) : ∀ a b, n ≤ a ∨ n ≤ b → M a b = false := by
  obtain ⟨B, rs, qs, rfl, h⟩ := h
  rintro a b (h1 | h1)
  · exact h.out a b h1
  · by_cases ha : n ≤ a
    · exact h.out a b ha
    · exact (h.row a (by rw [h.lr]; omega) (by rw [h.lq]; omega)).out b h1
theorem RL.congr {H : Hp} {R B : Nat} {rs qs : List Nat} {n : Nat} {M M' : Nat → Nat → Bool} (h : RL H R B rs qs n M) (e : ∀ a b, M' a b = M a b) : RL H R B rs qs n M' := by
  have : M' = M := funext fun a => funext fun b => e a b
  rw [this]; exact h
theorem RLO.congr {H : Hp} {R : Nat} {n : Nat} {M M' : Nat → Nat → Bool} {O : List Nat} (h : RLO H R O n M) (e : ∀ a b, M' a b = M a b) : RLO H R O n M' := by
  have : M' = M := funext fun a => funext fun b => e a b
  rw [this]; exact h

/-- A relation made where nothing was is none of what there was. -/
theorem RLO.apart {H : Hp} {R : Nat} {n : Nat} {M : Nat → Nat → Bool} {O P : List Nat} (h : RLO H R O n M) (hP : ∀ b ∈ P, H b = none) : (∀ b ∈ P, b ∉ O) ∧ (∀ b ∈ O, b ∉ P) ∧ gTab ∉ P :=
  ⟨fun b hb hb' => h.there b hb' (hP b hb), fun b hb hb' => h.there b hb (hP b hb'), fun hb => h.tz.there (hP _ hb)⟩

section
variable {H : Hp} {R B : Nat} {rs qs : List Nat} {n : Nat} {M : Nat → Nat → Bool}
/-- A look at row i. -/
theorem RL.at (h : RL H R B rs qs n M) {i : Int} {a : Nat} (hi : i = (a : Int)) (ha : a < n) {F : Option Addr → Prop} (hF : F (some ⟨rs[a]'(by rw [h.lr]; exact ha), 0, none⟩)) :
    NIL (some ⟨R, 0, none⟩) fun b o => ldL (rd H b o) fun xp xl _ => IDX i xl fun k => NIL xp fun b' o' => ldP (rd H b' (o' + k)) F := by
  obtain ⟨c, h1, h2⟩ := h.hd
  refine nil ?_
  refine ldL_i h1 ?_
  refine idxN a hi ha ?_
  refine nil ?_
  exact ldP_i (by rw [Nat.zero_add]; exact h.ptr a (by rw [h.lr]; exact ha)) hF
theorem RL.br (h : RL H R B rs qs n M) {a : Nat} (ha : a < n) : BR H (rs[a]'(by rw [h.lr]; exact ha)) (qs[a]'(by rw [h.lq]; exact ha)) n (M a) := h.row a _ _
/-- Row i has become s. -/
theorem RL.setRow (h : RL H R B rs qs n M) {a : Nat} (ha : a < n) {H' : Hp} {s : Nat → Bool} (hb : BR H' (rs[a]'(by rw [h.lr]; exact ha)) (qs[a]'(by rw [h.lq]; exact ha)) n s) (hm : Mod [qs[a]'(by rw [h.lq]; exact ha)] H H') :
    RL H' R B rs qs n (fun x y => if x = a then s y else M x y) := by
  have hnd := h.nd
  have haq : a < qs.length := by rw [h.lq]; exact ha
  simp only [List.nodup_cons, List.mem_cons, List.mem_append, List.nodup_append] at hnd
  obtain ⟨n1, n2, n3, n4, n5⟩ := hnd
  have hR : R ∉ [qs[a]] := by simp; intro e; exact n1 (.inr (.inr (e ▸ List.getElem_mem haq)))
  have hB : B ∉ [qs[a]] := by simp; intro e; exact n2 (.inr (e ▸ List.getElem_mem haq))
  obtain ⟨c, h1, h2⟩ := h.hd
  obtain ⟨cs, h3⟩ := h.hB
  refine ⟨hb.tz, h.lim, h.lr, h.lq, ⟨c, hm.rd hR h1, h2⟩, ⟨cs, hm _ hB _ h3⟩, fun i hi => hm.rd hB (h.ptr i hi), fun i hi hi' => ?_, fun x y hx => ?_, h.nd, h.g⟩
  · by_cases e : i = a
    · subst e; simpa using hb
    · simp only [if_neg e]
      refine (h.row i hi hi').mod hm (fun hx => ?_) (fun hx => ?_) (by simpa using hb.gq.symm)
      · simp at hx; exact n5 _ (List.getElem_mem hi) _ (List.getElem_mem haq) hx
      · simp at hx
        exact e (nodup_inj n4 hi' haq hx)
  · have : ¬ x = a := by omega
    simp only [if_neg this]; exact h.out x y hx
end
theorem RL.mem {H : Hp} {R B : Nat} {rs qs : List Nat} {n : Nat} {M : Nat → Nat → Bool} (h : RL H R B rs qs n M) {a : Nat} (ha : a < n) : (qs[a]'(by rw [h.lq]; exact ha)) ∈ R :: B :: (rs ++ qs) := by simp

theorem rel_Rel_Len.c {R n : Nat} {M : Nat → Nat → Bool} {O : List Nat} {H : Hp} {K : Int → Hp → Prop} (hu : RLO H R O n M) (hK : K (n : Nat) H) : rel_Rel_Len.C (some ⟨R, 0, none⟩) H K := by
  apply rel_Rel_Len.of
  obtain ⟨B, rs, qs, rfl, h⟩ := hu
  obtain ⟨c, h1, h2⟩ := h.hd
  exact bcd (fun h => by cases h) fun _ => nil (ldL_i h1 hK)
theorem rel_Rel_Len.nil {H : Hp} {K : Int → Hp → Prop} (hK : K 0 H) : rel_Rel_Len.C none H K := by
  apply rel_Rel_Len.of
  exact bcd (fun _ => hK) fun h => absurd rfl h
theorem rel_Rel_there.c {R n : Nat} {M : Nat → Nat → Bool} {O : List Nat} {i : Int} {H : Hp} {K : Bool → Hp → Prop} (hu : RLO H R O n M) (hK : K (decide (0 ≤ i ∧ i < (n : Int))) H) : rel_Rel_there.C (some ⟨R, 0, none⟩) i H K := by
  apply rel_Rel_there.of
  refine bcd (fun h => ?_) fun h => ?_
  · refine rel_Rel_Len.c hu ?_
    have e : decide (0 ≤ i ∧ i < (n : Int)) = decide (i < (n : Int)) := decide_eq_decide.2 ⟨fun g => g.2, fun g => ⟨h, g⟩⟩
    rw [← e]; exact hK
  · rwa [decide_eq_false (fun g => h g.1)] at hK

/-- Is a ahead of b? -/
def hasM (M : Nat → Nat → Bool) (a b : Int) : Bool := decide (0 ≤ a ∧ 0 ≤ b) && M a.toNat b.toNat
theorem hasM_nat {M : Nat → Nat → Bool} {a b : Nat} : hasM M (a : Int) (b : Int) = M a b := by
  have : (0 : Int) ≤ a ∧ (0 : Int) ≤ b := ⟨by omega, by omega⟩
  simp [hasM]
theorem rel_Rel_Has.c {R n : Nat} {M : Nat → Nat → Bool} {O : List Nat} {a b : Int} {H : Hp} {K : Bool → Hp → Prop} (hu : RLO H R O n M) (hK : K (hasM M a b) H) : rel_Rel_Has.C (some ⟨R, 0, none⟩) a b H K := by
  apply rel_Rel_Has.of
  refine rel_Rel_there.c hu ?_
  have hout := hu.out
  refine bcd (fun h => ?_) fun h => ?_
  · obtain ⟨B, rs, qs, rfl, h'⟩ := hu
    obtain ⟨a, rfl⟩ : ∃ k : Nat, a = k := ⟨a.toNat, by omega⟩
    refine h'.at rfl (by omega) ?_
    refine bits_Row_Has.c (h'.br (by omega)) ?_
    have e : hasB (M a) b = hasM M a b := by
      unfold hasB hasM
      by_cases hb : 0 ≤ b
      · simp [hb]
      · simp [hb]
    rw [e]; exact hK
  · have : hasM M a b = false := by
      unfold hasM
      by_cases h0 : 0 ≤ a ∧ 0 ≤ b
      · rw [hout _ _ (.inl (by omega))]; simp
      · simp [h0]
    rwa [this] at hK

/-- A pair more. -/
def addM (M : Nat → Nat → Bool) (n : Nat) (a b : Int) : Nat → Nat → Bool := fun x y => M x y || decide ((x : Int) = a ∧ (y : Int) = b ∧ x < n ∧ y < n)
def addB (M : Nat → Nat → Bool) (n : Nat) (a b : Int) : Bool := decide (0 ≤ a ∧ a < (n : Int) ∧ 0 ≤ b ∧ b < (n : Int)) && !hasM M a b
theorem putRow {M : Nat → Nat → Bool} {n a b : Nat} (ha : a < n) : (fun x y => if x = a then putB (M a) n (b : Int) true y else M x y) = addM M n a b := by
  funext x y
  unfold addM
  by_cases hx : x = a
  · subst hx
    rw [if_pos rfl, putB_nat]
    by_cases hy : y = b ∧ y < n
    · rw [if_pos hy]
      have : (x : Int) = (x : Int) ∧ (y : Int) = (b : Int) ∧ x < n ∧ y < n := ⟨rfl, by omega, ha, hy.2⟩
      simp [this]
    · rw [if_neg hy]
      have : ¬ ((x : Int) = (x : Int) ∧ (y : Int) = (b : Int) ∧ x < n ∧ y < n) := fun g => hy ⟨by omega, g.2.2.2⟩
      rw [decide_eq_false this, Bool.or_false]
  · rw [if_neg hx]
    have : ¬ ((x : Int) = (a : Int) ∧ (y : Int) = (b : Int) ∧ x < n ∧ y < n) := fun g => hx (by omega)
    rw [decide_eq_false this, Bool.or_false]
theorem addM_out {M : Nat → Nat → Bool} {n : Nat} {a b : Int} (h : ¬ (0 ≤ a ∧ a < (n : Int) ∧ 0 ≤ b ∧ b < (n : Int))) : addM M n a b = M := by
  funext x y
  unfold addM
  have : ¬ ((x : Int) = a ∧ (y : Int) = b ∧ x < n ∧ y < n) := fun g => h ⟨by omega, by omega, by omega, by omega⟩
  rw [decide_eq_false this, Bool.or_false]
theorem addM_has {M : Nat → Nat → Bool} {n : Nat} {a b : Int} (h : hasM M a b = true) : addM M n a b = M := by
  funext x y
  unfold addM
  by_cases g : (x : Int) = a ∧ (y : Int) = b ∧ x < n ∧ y < n
  · have : M x y = true := by rw [← g.1, ← g.2.1, hasM_nat] at h; exact h
    simp [this]
  · rw [decide_eq_false g, Bool.or_false]

theorem rel_Rel_Add.c {R n : Nat} {M : Nat → Nat → Bool} {O : List Nat} {a b : Int} {H : Hp} {K : Bool → Hp → Prop} (hu : RLO H R O n M) (hK : ∀ H', RLO H' R O n (addM M n a b) → Mod O H H' → K (addB M n a b) H') : rel_Rel_Add.C (some ⟨R, 0, none⟩) a b H K := by
  apply rel_Rel_Add.of
  have no : addB M n a b = false → addM M n a b = M → K false H := fun h1 h2 => by rw [← h1]; exact hK H (by rw [h2]; exact hu) .refl
  refine rel_Rel_there.c hu ?_
  refine bcn (fun h => no ?_ ?_) (fun h1 => ?_)
  · have := of_decide_eq_false h
    unfold addB; rw [decide_eq_false (fun g => this ⟨g.1, g.2.1⟩), Bool.false_and]
  · have := of_decide_eq_false h
    exact addM_out fun g => this ⟨g.1, g.2.1⟩
  refine rel_Rel_there.c hu ?_
  refine bcn (fun h => no ?_ ?_) (fun h2 => ?_)
  · have := of_decide_eq_false h
    unfold addB; rw [decide_eq_false (fun g => this g.2.2), Bool.false_and]
  · have := of_decide_eq_false h
    exact addM_out fun g => this g.2.2
  have h1 := of_decide_eq_true h1
  have h2 := of_decide_eq_true h2
  refine rel_Rel_Has.c hu ?_
  refine bc_i (fun h => no ?_ (addM_has h)) (fun h => ?_)
  · unfold addB; rw [h]; simp
  obtain ⟨B, rs, qs, rfl, h'⟩ := hu
  obtain ⟨a, rfl⟩ : ∃ k : Nat, a = k := ⟨a.toNat, by omega⟩
  obtain ⟨b, rfl⟩ : ∃ k : Nat, b = k := ⟨b.toNat, by omega⟩
  have ha : a < n := by omega
  refine h'.at rfl ha ?_
  refine bits_Row_Put.c (h'.br ha) fun H1 u1 m1 _ => ?_
  have e : addB M n a b = true := by
    unfold addB; rw [decide_eq_true ⟨h1.1, h1.2, h2.1, h2.2⟩, h]; rfl
  rw [← e]
  have u2 := h'.setRow ha u1 m1
  rw [putRow ha] at u2
  exact hK _ ⟨B, rs, qs, rfl, u2⟩ (m1.mono fun b' hb' => by simp at hb'; subst hb'; exact h'.mem ha)
end Go.Proofs.YtganockeifkecaaDoor
namespace Go.Proofs.YtganockeifkecaaDoor
open Go.V
/-! ### Ways -/
/-- One row of one round: who is ahead of k is ahead of those behind it. -/
def cloA (M : Nat → Nat → Bool) (k : Nat) : Nat → Nat → Nat → Bool
  | 0 => M
  | a + 1 => if cloA M k a a k then fun x y => if x = a then cloA M k a a y || cloA M k a k y else cloA M k a x y else cloA M k a
def cloK (M : Nat → Nat → Bool) (n : Nat) : Nat → Nat → Nat → Bool
  | 0 => M
  | k + 1 => cloA (cloK M n k) k n
def clo (M : Nat → Nat → Bool) (n : Nat) : Nat → Nat → Bool := cloK M n n
theorem cloA_eq (M : Nat → Nat → Bool) (k : Nat) : ∀ t x y, cloA M k t x y = (M x y || (decide (x < t) && M x k && M k y))
  | 0, x, y => by simp [cloA]
  | a + 1, x, y => by
    have ih := cloA_eq M k a
    have e1 : cloA M k a a k = M a k := by rw [ih]; simp
    have e2 : ∀ z, cloA M k a a z = M a z := fun z => by rw [ih]; simp
    have e3 : cloA M k a k y = M k y := by rw [ih]; cases M k y <;> simp
    rw [cloA, e1]
    by_cases hx : x = a
    · subst hx
      cases h : M x k
      · simp only [Bool.false_eq_true, if_false]
        rw [e2]; simp
      · simp only [if_true]
        rw [e2, e3]; simp
    · have : (x < a + 1) ↔ (x < a) := by omega
      rw [decide_eq_decide.2 this, ← ih]
      split
      · simp only [if_neg hx]
      · rfl
/-- By steps, with those below k between. -/
inductive Way (M : Nat → Nat → Bool) (k : Nat) : Nat → Nat → Prop
  | one {x y : Nat} : M x y = true → Way M k x y
  | two {x z y : Nat} : Way M k x z → z < k → Way M k z y → Way M k x y
theorem Way.mono {M : Nat → Nat → Bool} {k k' x y : Nat} (h : Way M k x y) (hk : k ≤ k') : Way M k' x y := by
  induction h with
  | one h => exact .one h
  | two _ hz _ ih1 ih2 => exact .two ih1 (by omega) ih2
/-- M speaks of those below n alone. -/
def Sup (M : Nat → Nat → Bool) (n : Nat) : Prop := ∀ x y, n ≤ x ∨ n ≤ y → M x y = false
theorem Sup.lt {M : Nat → Nat → Bool} {n x y : Nat} (h : Sup M n) (e : M x y = true) : x < n ∧ y < n := by
  constructor
  · apply Nat.lt_of_not_le; intro hx; rw [h x y (.inl hx)] at e; cases e
  · apply Nat.lt_of_not_le; intro hx; rw [h x y (.inr hx)] at e; cases e
theorem cloK_sup {M : Nat → Nat → Bool} {n : Nat} (h : Sup M n) : ∀ k, Sup (cloK M n k) n
  | 0 => h
  | k + 1 => fun x y hxy => by
    rw [cloK, cloA_eq]
    have ih := cloK_sup h k
    rw [ih x y hxy]
    rcases hxy with hx | hy
    · simp; intro h; omega
    · rw [ih k y (.inr hy)]; simp
theorem cloK_step {M : Nat → Nat → Bool} {n : Nat} (h : Sup M n) (k x y : Nat) : cloK M n (k + 1) x y = (cloK M n k x y || (cloK M n k x k && cloK M n k k y)) := by
  rw [cloK, cloA_eq]
  by_cases hx : x < n
  · simp [hx]
  · have := cloK_sup h k x k (.inl (by omega))
    simp [this]
theorem cloK_way {M : Nat → Nat → Bool} {n : Nat} (h : Sup M n) : ∀ k x y, cloK M n k x y = true ↔ Way M k x y
  | 0, x, y => by
    constructor
    · intro e; exact .one e
    · intro e
      cases e with
      | one e => exact e
      | two _ hz _ => omega
  | k + 1, x, y => by
    have ih := cloK_way h k
    have comp : ∀ {x z y}, cloK M n k x z = true → z < k → cloK M n k z y = true → cloK M n k x y = true := fun h1 hz h2 => (ih _ _).2 (.two ((ih _ _).1 h1) hz ((ih _ _).1 h2))
    constructor
    · intro e
      rw [cloK_step h, Bool.or_eq_true, Bool.and_eq_true] at e
      rcases e with e | ⟨e1, e2⟩
      · exact ((ih _ _).1 e).mono (by omega)
      · exact .two (((ih _ _).1 e1).mono (by omega)) (by omega) (((ih _ _).1 e2).mono (by omega))
    · intro e
      have st : ∀ u v, cloK M n (k + 1) u v = true ↔ (cloK M n k u v = true ∨ (cloK M n k u k = true ∧ cloK M n k k v = true)) := fun u v => by
        rw [cloK_step h, Bool.or_eq_true, Bool.and_eq_true]
      induction e with
      | one e => exact (st _ _).2 (.inl ((ih _ _).2 (.one e)))
      | @two x z y _ hz _ ih1 ih2 =>
        rw [st] at ih1 ih2 ⊢
        by_cases hzk : z = k
        · subst hzk
          have a1 : cloK M n z x z = true := by rcases ih1 with a | ⟨a, _⟩ <;> exact a
          have a2 : cloK M n z z y = true := by rcases ih2 with a | ⟨_, a⟩ <;> exact a
          exact .inr ⟨a1, a2⟩
        · have hz' : z < k := by omega
          rcases ih1 with a | ⟨a, b⟩
          · rcases ih2 with c | ⟨c, d⟩
            · exact .inl (comp a hz' c)
            · exact .inr ⟨comp a hz' c, d⟩
          · rcases ih2 with c | ⟨c, d⟩
            · exact .inr ⟨a, comp b hz' c⟩
            · exact .inr ⟨a, d⟩
/-- Who comes there by steps. -/
theorem clo_way {M : Nat → Nat → Bool} {n : Nat} (h : Sup M n) (x y : Nat) : clo M n x y = true ↔ Way M n x y := cloK_way h n x y
theorem clo_sup {M : Nat → Nat → Bool} {n : Nat} (h : Sup M n) : Sup (clo M n) n := cloK_sup h n
def Tr (M : Nat → Nat → Bool) : Prop := ∀ x y z, M x y = true → M y z = true → M x z = true
theorem clo_tr {M : Nat → Nat → Bool} {n : Nat} (h : Sup M n) : Tr (clo M n) := fun x y z h1 h2 => by
  have hy := ((clo_sup h).lt h1).2
  exact (clo_way h x z).2 (.two ((clo_way h x y).1 h1) hy ((clo_way h y z).1 h2))
theorem clo_ge {M : Nat → Nat → Bool} {n : Nat} (h : Sup M n) {x y : Nat} (e : M x y = true) : clo M n x y = true := (clo_way h x y).2 (.one e)
/-- The least that has all ways. -/
theorem clo_least {M N : Nat → Nat → Bool} {n : Nat} (h : Sup M n) (ht : Tr N) (hle : ∀ x y, M x y = true → N x y = true) {x y : Nat} (e : clo M n x y = true) : N x y = true := by
  have := (clo_way h x y).1 e
  clear e
  induction this with
  | one e => exact hle _ _ e
  | two _ _ _ ih1 ih2 => exact ht _ _ _ ih1 ih2
theorem bool_ext {a b : Bool} (h : a = true ↔ b = true) : a = b := by cases a <;> cases b <;> simp_all
theorem clo_of_tr {M : Nat → Nat → Bool} {n : Nat} (h : Sup M n) (ht : Tr M) : clo M n = M :=
  funext fun _ => funext fun _ => bool_ext ⟨fun e => clo_least h ht (fun _ _ e => e) e, clo_ge h⟩
theorem clo_clo {M : Nat → Nat → Bool} {n : Nat} (h : Sup M n) : clo (clo M n) n = clo M n := clo_of_tr (clo_sup h) (clo_tr h)
theorem clo_mono {M N : Nat → Nat → Bool} {n : Nat} (h : Sup M n) (hN : Sup N n) (hle : ∀ x y, M x y = true → clo N n x y = true) {x y : Nat} (e : clo M n x y = true) : clo N n x y = true :=
  clo_least h (clo_tr hN) hle e

/-! ### Relations made -/
theorem RL.nodup_of {R B : Nat} {rs qs : List Nat} (h1 : R ≠ B) (h2 : R ∉ rs) (h3 : R ∉ qs) (h4 : B ∉ rs) (h5 : B ∉ qs) (h6 : rs.Nodup) (h7 : qs.Nodup) (h8 : ∀ a ∈ rs, ∀ b ∈ qs, a ≠ b) : (R :: B :: (rs ++ qs)).Nodup := by
  simp only [List.nodup_cons, List.mem_cons, List.mem_append, List.nodup_append]
  exact ⟨fun h => h.elim h1 fun h => h.elim h2 h3, fun h => h.elim h4 h5, h6, h7, h8⟩

theorem rel_New.c {n : Int} {H : Hp} {K : Option Addr → Hp → Prop} (hT : Tz H)
    (hK : ∀ R O H', RLO H' R O (min (max n 0) 200).toNat (fun _ _ => false) → (∀ b ∈ O, H b = none) → Le H H' → K (some ⟨R, 0, none⟩) H') : rel_New.C n H K := by
  apply rel_New.of
  unfold rel_New.F
  obtain ⟨m, hm⟩ : ∃ m : Nat, min (max n 0) 200 = (m : Int) := ⟨(min (max n 0) 200).toNat, by omega⟩
  rw [hm, Int.toNat_natCast] at hK
  rw [hm]
  refine mk rfl (by omega) (by omega) ?_
  intro B hB R hR
  have hRB : R ≠ B := fun e => by subst e; simp [upd] at hR
  have hR0 : H R = none := none_of_le (.upd hB) hR
  have le0 : Le H (upd (upd H B (rep m [.pointer none])) R [.slice (some ⟨B, 0, none⟩) m m]) := (Le.upd hB).trans (.upd hR)
  refine ldL_i (by rw [rd_upd_self]; rfl) ?_
  refine ⟨fun t H' => ∃ (t' : Nat) (rs qs : List Nat), t = t' ∧ t' ≤ m ∧ Le H H' ∧ rs.length = t' ∧ qs.length = t' ∧ rd H' R 0 = some (.slice (some ⟨B, 0, none⟩) m m) ∧ (∃ cs, H' B = some cs) ∧ (∀ i, i < m → ∃ p, rd H' B i = some (.pointer p) ∧ ∀ (h : i < rs.length), p = some ⟨rs[i], 0, none⟩) ∧
      (∀ i (h : i < rs.length) (h' : i < qs.length), BR H' rs[i] qs[i] m (fun _ => false)) ∧ (R :: B :: (rs ++ qs)).Nodup ∧ ∀ b ∈ R :: B :: (rs ++ qs), H b = none, fun t _ => (m - t).toNat,
    ⟨0, [], [], rfl, by omega, le0, rfl, rfl, by rw [rd_upd_self]; rfl, ⟨_, by rw [upd_ne (Ne.symm hRB)]; unfold upd; rw [if_pos rfl]⟩, fun i hi => ⟨none, by rw [rd_upd_ne (Ne.symm hRB), rd_rep hi], fun h => by simp at h⟩, fun i h => by simp at h, by simp [hRB], fun b hb => by simp at hb; rcases hb with rfl | rfl <;> assumption⟩, ?_⟩
  rintro t H1 ⟨t, rs, qs, rfl, ht, le1, l1, l2, h1, h2, h3, h4, h5, h6⟩
  refine bcd (fun h => ?_) (fun h => ?_)
  · refine ldL_i h1 (ldL_i h1 ?_)
    refine bits_New.c (hT.le le1) fun r q H2 u2 hr hq le2 => ?_
    rw [show (min (max (m : Int) 0) 1000).toNat = m by omega] at u2
    have htm : t < m := by omega
    obtain ⟨p, hp, _⟩ := h3 t htm
    refine ⟨le2.rd h1, ?_⟩
    refine idx htm ?_
    refine nil ?_
    obtain ⟨cs, h2⟩ := h2
    have hBq : B ≠ q := ne_of_none (by rw [h2]; intro e; cases e) hq
    have hBr : B ≠ r := ne_of_none (by rw [h2]; intro e; cases e) hr
    have hRq : R ≠ q := ne_of_none (ne_none_of_rd h1) hq
    have hRr : R ≠ r := ne_of_none (ne_none_of_rd h1) hr
    have hg : gTab ∉ [B] := by
      have := hT.there
      intro e; simp at e; exact this (e ▸ hB)
    have mB : Mod [B] H2 (wr H2 B t (.pointer (some ⟨r, 0, none⟩))) := Mod.refl.wr (.inl (by simp))
    refine st0 (le2.rd hp) (chk (by omega) ⟨⟨t + 1, rs ++ [r], qs ++ [q], by omega, by omega, (le1.trans le2).wr hB, by simp [l1], by simp [l2], ?_, ?_, fun i hi => ?_, fun i hi hi' => ?_, ?_, fun b hb => ?_⟩, by first | omega | (dsimp only; omega)⟩)
    · rw [rd_wr_ne hRB]; exact le2.rd h1
    · exact ⟨_, by unfold wr; rw [if_pos rfl, le2 _ _ h2]; rfl⟩
    · by_cases e : i = t
      · subst e
        refine ⟨_, rd_wr_self (le2.rd hp), fun h => ?_⟩
        simp [← l1]
      · obtain ⟨p', hp', hp2⟩ := h3 i hi
        refine ⟨p', by rw [rd_wr_off e]; exact le2.rd hp', fun h => ?_⟩
        simp only [List.length_append, List.length_singleton] at h
        have hi' : i < rs.length := by omega
        rw [hp2 hi', List.getElem_append_left hi']
    · simp only [List.length_append, List.length_singleton] at hi hi'
      by_cases e : i = t
      · subst e
        have e1 : (rs ++ [r])[i] = r := by simp [← l1]
        have e2 : (qs ++ [q])[i] = q := by simp [← l2]
        simp only [e1, e2]
        exact u2.mod mB (by simpa using Ne.symm hBr) (by simpa using Ne.symm hBq) hg
      · have hi1 : i < rs.length := by omega
        have hi2 : i < qs.length := by omega
        rw [List.getElem_append_left hi1, List.getElem_append_left hi2]
        have hnd := h5
        simp only [List.nodup_cons, List.mem_cons, List.mem_append] at hnd
        exact ((h4 i hi1 hi2).le le2).mod mB (by simp; intro e; exact hnd.2.1 (.inl (e ▸ List.getElem_mem hi1))) (by simp; intro e; exact hnd.2.1 (.inr (e ▸ List.getElem_mem hi2))) hg
    · simp only [List.nodup_cons, List.mem_cons, List.mem_append, List.nodup_append] at h5
      obtain ⟨n1, n2, n3, n4, n5⟩ := h5
      have old : ∀ b, b ∈ rs ∨ b ∈ qs → b ≠ r ∧ b ≠ q := fun b hb => by
        have hb' : H1 b ≠ none := by
          rcases hb with hb | hb
          · obtain ⟨i, hi, rfl⟩ := List.mem_iff_getElem.1 hb
            exact (h4 i hi (by omega)).hr
          · obtain ⟨i, hi, rfl⟩ := List.mem_iff_getElem.1 hb
            exact (h4 i (by omega) hi).hq
        exact ⟨ne_of_none hb' hr, ne_of_none hb' hq⟩
      have hrq := u2.rq
      refine RL.nodup_of hRB (by simp; exact ⟨fun h => n1 (.inr (.inl h)), hRr⟩) (by simp; exact ⟨fun h => n1 (.inr (.inr h)), hRq⟩) (by simp; exact ⟨fun h => n2 (.inl h), hBr⟩) (by simp; exact ⟨fun h => n2 (.inr h), hBq⟩)
        (List.nodup_append.2 ⟨n3, by simp, fun a ha b hb => by simp at hb; subst hb; exact (old a (.inl ha)).1⟩) (List.nodup_append.2 ⟨n4, by simp, fun a ha b hb => by simp at hb; subst hb; exact (old a (.inr ha)).2⟩) (fun a ha b hb => ?_)
      rcases List.mem_append.1 ha with ha | ha
      · rcases List.mem_append.1 hb with hb | hb
        · exact n5 a ha b hb
        · simp at hb; subst hb; exact (old a (.inl ha)).2
      · simp at ha; subst ha
        rcases List.mem_append.1 hb with hb | hb
        · exact (old b (.inr hb)).1.symm
        · simp at hb; subst hb; exact hrq
    · rcases List.mem_cons.1 hb with rfl | hb
      · exact hR0
      rcases List.mem_cons.1 hb with rfl | hb
      · exact hB
      rcases List.mem_append.1 hb with hb | hb
      · rcases List.mem_append.1 hb with hb | hb
        · exact h6 b (by simp [hb])
        · simp at hb; subst hb; exact none_of_le le1 hr
      · rcases List.mem_append.1 hb with hb | hb
        · exact h6 b (by simp [hb])
        · simp at hb; subst hb; exact none_of_le le1 hq
  · obtain rfl : t = m := by omega
    refine hK R _ H1 ⟨B, rs, qs, rfl, ⟨hT.le le1, by omega, l1, l2, ⟨t, h1, Nat.le_refl _⟩, h2, fun i hi => ?_, h4, fun _ _ _ => rfl, h5, fun hb => hT.there (h6 _ hb)⟩⟩ h6 le1
    obtain ⟨p, hp, hp2⟩ := h3 i (by omega)
    rw [hp, hp2 hi]

theorem rel_Rel_Copy.c {R n : Nat} {M : Nat → Nat → Bool} {O : List Nat} {H : Hp} {K : Option Addr → Hp → Prop} (hu : RLO H R O n M)
    (hK : ∀ R' O' H', RLO H' R' O' n M → (∀ b ∈ O', H b = none) → Le H H' → K (some ⟨R', 0, none⟩) H') : rel_Rel_Copy.C (some ⟨R, 0, none⟩) H K := by
  apply rel_Rel_Copy.of
  refine rel_Rel_Len.c hu ?_
  have hlim := hu.lim
  refine rel_New.c hu.tz fun R' O' H1 u1 hO le1 => ?_
  rw [show (min (max (n : Int) 0) 200).toNat = n by omega] at u1
  have hap := hu.apart hO
  have v1 := hu.le le1
  have hsup : ∀ i y, i < n → n ≤ y → M i y = false := fun i y _ hy => hu.out i y (.inr hy)
  obtain ⟨B', rs', qs', rfl, u1⟩ := u1
  obtain ⟨c1, hd1, _⟩ := u1.hd
  refine nil ?_
  refine ldL_i hd1 ?_
  refine ⟨fun t H' => ∃ t' : Nat, t = t' ∧ t' ≤ n ∧ Le H H' ∧ RLO H' R O n M ∧ RL H' R' B' rs' qs' n (fun x y => decide (x < t') && M x y), fun t _ => (n - t).toNat, ⟨0, rfl, by omega, le1, v1, u1.congr fun a b => by simp⟩, ?_⟩
  rintro t H2 ⟨t, rfl, ht, le2, v2, u2⟩
  refine bcd (fun h => ?_) (fun h => ?_)
  · have htn : t < n := by omega
    refine u2.at rfl htn ?_
    have v2' := v2
    obtain ⟨B, rs, qs, rfl, v2⟩ := v2
    refine v2.at rfl htn ?_
    have hq : qs[t]'(by rw [v2.lq]; exact htn) ∉ [qs'[t]'(by rw [u2.lq]; exact htn)] := by
      intro e; simp at e
      exact hap.2.1 _ (v2.mem htn) (by rw [e]; exact u2.mem htn)
    refine bits_Row_Or.c (u2.br htn) (v2.br htn) hq fun H3 u3 m3 => ?_
    have hq' : ∀ b ∈ [qs'[t]'(by rw [u2.lq]; exact htn)], b ∈ R' :: B' :: (rs' ++ qs') := fun b hb => by simp at hb; subst hb; exact u2.mem htn
    refine chk (by omega) ⟨⟨t + 1, by omega, by omega, m3.le le2 fun b hb => hO b (hq' b hb), v2'.mod m3 (fun b hb => hap.1 b (hq' b hb)) (by simpa using (u2.br htn).gq.symm), ?_⟩, by first | omega | (dsimp only; omega)⟩
    refine (u2.setRow htn u3 m3).congr fun x y => ?_
    by_cases hx : x = t
    · subst hx
      rw [if_pos rfl]
      unfold orB
      by_cases hy : y < n
      · simp [hy]
      · have := hsup x y htn (by omega); simp [this]
    · rw [if_neg hx]
      rw [decide_eq_decide.2 (show x < t + 1 ↔ x < t by omega)]
  · obtain rfl : t = n := by omega
    refine hK R' _ H2 ⟨B', rs', qs', rfl, u2.congr fun a b => ?_⟩ hO le2
    by_cases ha : a < t
    · simp [ha]
    · have := v2.out a b (.inl (by omega)); simp [this]

theorem RLO.sup {H : Hp} {R : Nat} {n : Nat} {M : Nat → Nat → Bool} {O : List Nat} (h : RLO H R O n M) : Sup M n := h.out

theorem rel_Rel_Closure.c {R n : Nat} {M : Nat → Nat → Bool} {O : List Nat} {H : Hp} {K : Option Addr → Hp → Prop} (hu : RLO H R O n M)
    (hK : ∀ R' O' H', RLO H' R' O' n (clo M n) → (∀ b ∈ O', H b = none) → Le H H' → K (some ⟨R', 0, none⟩) H') : rel_Rel_Closure.C (some ⟨R, 0, none⟩) H K := by
  apply rel_Rel_Closure.of
  have hlim := hu.lim
  refine rel_Rel_Copy.c hu fun R' O' H1 u1 hO le1 => ?_
  obtain ⟨B', rs', qs', rfl, u1⟩ := u1
  obtain ⟨c1, hd1, _⟩ := u1.hd
  refine nil ?_
  refine ldL_i hd1 ?_
  refine ⟨fun t H' => ∃ k : Nat, t = k ∧ k ≤ n ∧ Le H H' ∧ RL H' R' B' rs' qs' n (cloK M n k), fun t _ => (n - t).toNat, ⟨0, rfl, by omega, le1, u1⟩, ?_⟩
  rintro t H2 ⟨k, rfl, hk, le2, u2⟩
  refine bcd (fun h => ?_) (fun h => ?_)
  · have hkn : k < n := by omega
    obtain ⟨c2, hd2, _⟩ := u2.hd
    refine nil ?_
    refine ldL_i hd2 ?_
    refine ⟨fun t H' => ∃ a : Nat, t = a ∧ a ≤ n ∧ Le H H' ∧ RL H' R' B' rs' qs' n (cloA (cloK M n k) k a), fun t _ => (n - t).toNat, ⟨0, rfl, by omega, le2, u2⟩, ?_⟩
    rintro t H3 ⟨a, rfl, ha, le3, u3⟩
    refine bcd (fun h => ?_) (fun h => ?_)
    · have han : a < n := by omega
      have o3 : RLO H3 R' _ n _ := ⟨B', rs', qs', rfl, u3⟩
      refine rel_Rel_Has.c o3 ?_
      rw [hasM_nat]
      have e0 : cloA (cloK M n k) k (a + 1) = if cloA (cloK M n k) k a a k then fun x y => if x = a then cloA (cloK M n k) k a a y || cloA (cloK M n k) k a k y else cloA (cloK M n k) k a x y else cloA (cloK M n k) k a := rfl
      refine bc_i (fun hh => ?_) (fun hh => ?_)
      · rw [if_pos hh] at e0
        refine u3.at rfl han ?_
        refine u3.at rfl hkn ?_
        by_cases hak : a = k
        · subst hak
          refine bits_Row_Or.self (u3.br han) fun H4 le4 => ?_
          refine chk (by omega) ⟨⟨a + 1, by omega, by omega, le3.trans le4, ?_⟩, by first | omega | (dsimp only; omega)⟩
          refine (u3.mod (O := []) le4.mod (by simp) (by simp)).congr fun x y => ?_
          rw [e0]
          by_cases hx : x = a
          · subst hx; simp
          · simp only [if_neg hx]
        · have hq : qs'[k]'(by rw [u3.lq]; exact hkn) ∉ [qs'[a]'(by rw [u3.lq]; exact han)] := by
            intro e; simp at e
            have hnd := u3.nd
            simp only [List.nodup_cons, List.nodup_append] at hnd
            exact hak (nodup_inj hnd.2.2.2.1 _ _ e.symm)
          refine bits_Row_Or.c (u3.br han) (u3.br hkn) hq fun H4 u4 m4 => ?_
          refine chk (by omega) ⟨⟨a + 1, by omega, by omega, m4.le le3 fun b hb => by simp at hb; subst hb; exact hO _ (u3.mem han), ?_⟩, by first | omega | (dsimp only; omega)⟩
          refine (u3.setRow han u4 m4).congr fun x y => ?_
          rw [e0]
          by_cases hx : x = a
          · subst hx
            simp only [if_true]
            unfold orB
            by_cases hy : y < n
            · simp [hy]
            · have := o3.out k y (.inr (by omega)); simp [this]
          · simp only [if_neg hx]
      · rw [if_neg (by rw [hh]; simp)] at e0
        exact chk (by omega) ⟨⟨a + 1, by omega, by omega, le3, by rw [e0]; exact u3⟩, by first | omega | (dsimp only; omega)⟩
    · obtain rfl : a = n := by omega
      exact chk (by omega) ⟨⟨k + 1, by omega, by omega, le3, u3⟩, by first | omega | (dsimp only; omega)⟩
  · obtain rfl : k = n := by omega
    exact hK R' _ H2 ⟨B', rs', qs', rfl, u2⟩ hO le2

def sameM (M N : Nat → Nat → Bool) (n : Nat) : Bool := (List.range n).all fun a => sameB (M a) (N a) n
theorem sameM_iff {M N : Nat → Nat → Bool} {n : Nat} : sameM M N n = true ↔ ∀ a b, a < n → b < n → M a b = N a b := by
  unfold sameM
  rw [List.all_eq_true]
  constructor
  · intro h a b ha hb; exact sameB_iff.1 (h a (by simpa using ha)) b hb
  · intro h a ha; exact sameB_iff.2 fun b hb => h a b (by simpa using ha) hb
theorem sameM_sup {M N : Nat → Nat → Bool} {n : Nat} (hM : Sup M n) (hN : Sup N n) : sameM M N n = true ↔ M = N := by
  rw [sameM_iff]
  constructor
  · intro h
    funext a b
    by_cases ha : a < n
    · by_cases hb : b < n
      · exact h a b ha hb
      · rw [hM a b (.inr (by omega)), hN a b (.inr (by omega))]
    · rw [hM a b (.inl (by omega)), hN a b (.inl (by omega))]
  · intro h a b _ _; rw [h]
theorem trB_iff {M : Nat → Nat → Bool} {n : Nat} (h : Sup M n) : sameM M (clo M n) n = true ↔ Tr M := by
  rw [sameM_sup h (clo_sup h)]
  constructor
  · intro e; rw [e]; exact clo_tr h
  · intro e; exact (clo_of_tr h e).symm
end Go.Proofs.YtganockeifkecaaDoor
namespace Go.Proofs.YtganockeifkecaaDoor
open Go.V
/-! ### Through all pairs -/
/-- All pairs ahead of (a, b). -/
def prsTo (M : Nat → Nat → Bool) (n a b : Nat) : List (Int × Int) := ((List.range a).flatMap fun x => (els (M x) n).map fun (y : Nat) => ((x : Int), (y : Int))) ++ (els (M a) b).map fun (y : Nat) => ((a : Int), (y : Int))
def prs (M : Nat → Nat → Bool) (n : Nat) : List (Int × Int) := (List.range n).flatMap fun x => (els (M x) n).map fun (y : Nat) => ((x : Int), (y : Int))
theorem prsTo_off {M : Nat → Nat → Bool} {n a b : Nat} (h : M a b = false) : prsTo M n a (b + 1) = prsTo M n a b := by unfold prsTo; rw [els_off h]
theorem prsTo_on {M : Nat → Nat → Bool} {n a b : Nat} (h : M a b = true) : prsTo M n a (b + 1) = prsTo M n a b ++ [((a : Int), (b : Int))] := by unfold prsTo; rw [els_on h]; simp
theorem prsTo_row {M : Nat → Nat → Bool} {n a i : Nat} (h : Sup M n) (hi : n ≤ i) : prsTo M n (a + 1) 0 = prsTo M n a i := by
  unfold prsTo
  rw [List.range_succ, List.flatMap_append, els_end (fun j hj => h a j (.inr hj)) hi]
  simp [els]
theorem prs_mem {M : Nat → Nat → Bool} {n : Nat} {p : Int × Int} : p ∈ prs M n ↔ ∃ a b : Nat, a < n ∧ b < n ∧ M a b = true ∧ p = ((a : Int), (b : Int)) := by
  unfold prs
  simp only [List.mem_flatMap, List.mem_range, List.mem_map, els_mem]
  constructor
  · rintro ⟨a, ha, b, ⟨hb, hm⟩, rfl⟩; exact ⟨a, b, ha, hb, hm, rfl⟩
  · rintro ⟨a, b, ha, hb, hm, rfl⟩; exact ⟨a, ha, b, ⟨hb, hm⟩, rfl⟩

/-- What is kept. -/
def keepB (keep : List Bool) (i : Nat) : Bool := keep.getD i false
def onlyM (M : Nat → Nat → Bool) (keep : List Bool) : Nat → Nat → Bool := fun a b => M a b && keepB keep a && keepB keep b
/-- Pairs that are kept, as far as (a, b). -/
def onlyTo (M : Nat → Nat → Bool) (keep : List Bool) (a b : Nat) : Nat → Nat → Bool := fun x y => onlyM M keep x y && (decide (x < a) || (decide (x = a) && decide (y < b)))
end Go.Proofs.YtganockeifkecaaDoor
namespace Go.Proofs.YtganockeifkecaaDoor
open Go.V
/-! ### Of pairs; joined -/
def okP (l : List (Int × Int)) (n : Nat) : Bool := l.all fun p => decide (0 ≤ p.1 ∧ p.1 < (n : Int) ∧ 0 ≤ p.2 ∧ p.2 < (n : Int))
def ofM (l : List (Int × Int)) (n : Nat) : Nat → Nat → Bool := fun x y => decide (x < n ∧ y < n) && l.any fun p => decide (p.1 = (x : Int) ∧ p.2 = (y : Int))
theorem ofM_snoc {l : List (Int × Int)} {n : Nat} {p : Int × Int} : ofM (l ++ [p]) n = addM (ofM l n) n p.1 p.2 := by
  funext x y
  unfold ofM addM
  rw [List.any_append]
  rw [Bool.eq_iff_iff]
  simp
  constructor
  · rintro ⟨h1, h2 | h2⟩
    · exact .inl ⟨h1, h2⟩
    · exact .inr ⟨h2.1.symm, h2.2.symm, h1.1, h1.2⟩
  · rintro (⟨h1, h2⟩ | ⟨h2, h3, h4, h5⟩)
    · exact ⟨h1, .inl h2⟩
    · exact ⟨⟨h4, h5⟩, .inr ⟨h2.symm, h3.symm⟩⟩
theorem ofM_sup (l : List (Int × Int)) (n : Nat) : Sup (ofM l n) n := fun x y h => by
  unfold ofM
  have : ¬ (x < n ∧ y < n) := by omega
  rw [decide_eq_false this, Bool.false_and]
theorem okP_snoc {l : List (Int × Int)} {n : Nat} {p : Int × Int} : okP (l ++ [p]) n = (okP l n && decide (0 ≤ p.1 ∧ p.1 < (n : Int) ∧ 0 ≤ p.2 ∧ p.2 < (n : Int))) := by unfold okP; rw [List.all_append]; simp
theorem okP_take {l : List (Int × Int)} {n i : Nat} (h : okP (l.take i) n = false) : okP l n = false := by
  unfold okP at *
  rw [List.all_eq_false] at *
  obtain ⟨x, hx, h⟩ := h
  exact ⟨x, List.mem_of_mem_take hx, h⟩

/-- The ways by one pair more. -/
theorem clo_add {M : Nat → Nat → Bool} {n a b : Nat} (hs : Sup M n) (ht : Tr M) (ha : a < n) (hb : b < n) (x y : Nat) :
    clo (addM M n a b) n x y = (M x y || ((decide (x = a) || M x a) && (decide (y = b) || M b y))) := by
  have sA : Sup (addM M n a b) n := fun u v huv => by
    unfold addM
    rw [hs u v huv]
    have : ¬ ((u : Int) = (a : Int) ∧ (v : Int) = (b : Int) ∧ u < n ∧ v < n) := by omega
    rw [decide_eq_false this]; rfl
  have hadd : ∀ u v, addM M n a b u v = true ↔ M u v = true ∨ (u = a ∧ v = b) := fun u v => by
    unfold addM
    rw [Bool.or_eq_true, decide_eq_true_eq]
    constructor
    · rintro (h | h)
      · exact .inl h
      · exact .inr ⟨by omega, by omega⟩
    · rintro (h | ⟨rfl, rfl⟩)
      · exact .inl h
      · exact .inr ⟨rfl, rfl, ha, hb⟩
  have htr : Tr fun x y => (M x y || ((decide (x = a) || M x a) && (decide (y = b) || M b y))) := by
    intro u v w h1 h2
    simp only [Bool.or_eq_true, Bool.and_eq_true, decide_eq_true_eq] at h1 h2 ⊢
    rcases h1 with h1 | ⟨h1, h1'⟩
    · rcases h2 with h2 | ⟨h2, h2'⟩
      · exact .inl (ht _ _ _ h1 h2)
      · refine .inr ⟨?_, h2'⟩
        rcases h2 with rfl | h2
        · exact .inr h1
        · exact .inr (ht _ _ _ h1 h2)
    · rcases h2 with h2 | ⟨h2, h2'⟩
      · refine .inr ⟨h1, ?_⟩
        rcases h1' with rfl | h1'
        · exact .inr h2
        · exact .inr (ht _ _ _ h1' h2)
      · exact .inr ⟨h1, h2'⟩
  apply bool_ext
  constructor
  · intro e
    exact clo_least sA htr (fun u v h => by
      simp only [Bool.or_eq_true, Bool.and_eq_true, decide_eq_true_eq]
      rcases (hadd u v).1 h with h | ⟨h, h'⟩
      · exact .inl h
      · exact .inr ⟨.inl h, .inl h'⟩) e
  · intro e
    simp only [Bool.or_eq_true, Bool.and_eq_true, decide_eq_true_eq] at e
    have one : ∀ {u v}, addM M n a b u v = true → clo (addM M n a b) n u v = true := fun h => clo_ge sA h
    have tr := clo_tr sA
    have hab := one ((hadd a b).2 (.inr ⟨rfl, rfl⟩))
    rcases e with e | ⟨e1, e2⟩
    · exact one ((hadd x y).2 (.inl e))
    · have h1 : clo (addM M n a b) n x b = true := by
        rcases e1 with rfl | e1
        · exact hab
        · exact tr _ _ _ (one ((hadd _ _).2 (.inl e1))) hab
      rcases e2 with rfl | e2
      · exact h1
      · exact tr _ _ _ h1 (one ((hadd _ _).2 (.inl e2)))
theorem addM_sup {M : Nat → Nat → Bool} {n : Nat} {a b : Int} (hs : Sup M n) : Sup (addM M n a b) n := fun u v huv => by
  unfold addM
  rw [hs u v huv]
  have : ¬ ((u : Int) = a ∧ (v : Int) = b ∧ u < n ∧ v < n) := by omega
  rw [decide_eq_false this]; rfl

def inN (n : Nat) (a b : Int) : Bool := decide (0 ≤ a ∧ a < (n : Int) ∧ 0 ≤ b ∧ b < (n : Int))
/-- Joined; whether anything became so. -/
def jM (M : Nat → Nat → Bool) (n : Nat) (a b : Int) : Nat → Nat → Bool := if inN n a b then clo (addM M n a b) n else M
def jB (M : Nat → Nat → Bool) (n : Nat) (a b : Int) : Bool := inN n a b && !sameM (jM M n a b) M n
theorem jM_sup {M : Nat → Nat → Bool} {n : Nat} {a b : Int} (hs : Sup M n) : Sup (jM M n a b) n := by
  unfold jM
  split
  · exact clo_sup (addM_sup hs)
  · exact hs

end Go.Proofs.YtganockeifkecaaDoor
namespace Go.Proofs.YtganockeifkecaaDoor
open Go.V
/-! ### What the laws of relations start with -/
theorem sn_lit2 {H : Hp} {b : Nat} {x y z w : Int} : Sn 2 pairC (upd H b [.int .i64 x, .int .i64 y, .int .i64 z, .int .i64 w]) (some ⟨b, 0, none⟩) 2 2 [(x, y), (z, w)] :=
  ⟨rfl, Nat.le_refl _, .inr ⟨b, 0, rfl, fun i hi j v e => by
    rw [rd_upd_self]
    match i, hi with
    | 0, _ => match j, e with
      | 0, e => simp [pairC] at e; subst e; rfl
      | 1, e => simp [pairC] at e; subst e; rfl
      | j + 2, e => simp [pairC] at e
    | 1, _ => match j, e with
      | 0, e => simp [pairC] at e; subst e; rfl
      | 1, e => simp [pairC] at e; subst e; rfl
      | j + 2, e => simp [pairC] at e⟩⟩
theorem sn_lit1 {H : Hp} {b : Nat} {x y : Int} : Sn 2 pairC (upd H b [.int .i64 x, .int .i64 y]) (some ⟨b, 0, none⟩) 1 1 [(x, y)] :=
  ⟨rfl, Nat.le_refl _, .inr ⟨b, 0, rfl, fun i hi j v e => by
    rw [rd_upd_self]
    match i, hi with
    | 0, _ => match j, e with
      | 0, e => simp [pairC] at e; subst e; rfl
      | 1, e => simp [pairC] at e; subst e; rfl
      | j + 2, e => simp [pairC] at e⟩⟩

theorem sameM_refl {M : Nat → Nat → Bool} {n : Nat} : sameM M M n = true := sameM_iff.2 fun _ _ _ _ => rfl
theorem prs_len_le (M : Nat → Nat → Bool) (n : Nat) : (prs M n).length ≤ n * n := by
  unfold prs
  rw [List.length_flatMap]
  have : ∀ l : List Nat, ((l.map fun x => ((els (M x) n).map fun (y : Nat) => ((x : Int), (y : Int))).length)).sum ≤ l.length * n := by
    intro l
    induction l with
    | nil => simp
    | cons x l ih =>
      rw [List.map_cons, List.sum_cons, List.length_cons, Nat.add_mul]
      have := els_len_le (M x) n
      rw [List.length_map]
      omega
  simpa using this (List.range n)

/-- A relation that grows stays apart from one that is. -/
theorem RLO.stay {H : Hp} {R n : Nat} {M : Nat → Nat → Bool} {O P P' : List Nat} (h : RLO H R O n M) (hd : ∀ x ∈ P, x ∉ O) (hP : ∀ x ∈ P', x ∈ P ∨ H x = none) : ∀ x ∈ P', x ∉ O := fun x hx hxO => by
  rcases hP x hx with h' | h'
  · exact hd x h' hxO
  · exact h.there x hxO h'
end Go.Proofs.YtganockeifkecaaDoor
namespace Go.Proofs.YtganockeifkecaaDoor
open Go.V
/-! ### The document's relations -/
structure RF (H : Hp) (m B : Nat) (bs : List Nat) (n : Nat) (M : Nat → Nat → Bool) : Prop where
  lim : n ≤ 200
  lb : bs.length = n
  hn : rd H m 0 = some (.int .i64 (n : Nat))
  hm : ∃ p c, rd H m 1 = some (.slice p n c) ∧ n ≤ c ∧ (n = 0 ∨ p = some ⟨B, 0, none⟩)
  ptr : ∀ i (h : i < bs.length), rd H B i = some (.slice (some ⟨bs[i], 0, none⟩) n n)
  row : ∀ i (h : i < bs.length) j, j < n → rd H bs[i] j = some (.bool (M i j))
  out : Sup M n
  nd : n = 0 ∨ (m :: B :: bs).Nodup
  there : ∀ b ∈ m :: B :: bs, H b ≠ none
def RFO (H : Hp) (m : Nat) (O : List Nat) (n : Nat) (M : Nat → Nat → Bool) : Prop := ∃ B bs, O = m :: B :: bs ∧ RF H m B bs n M
section
variable {H H' : Hp} {m B : Nat} {bs O P : List Nat} {n : Nat} {M M' : Nat → Nat → Bool}
theorem RF.mod (h : RF H m B bs n M) (hm : Mod O H H') (hd : ∀ b ∈ O, b ∉ m :: B :: bs) : RF H' m B bs n M := by
  have h1 : m ∉ O := fun hb => hd m hb (by simp)
  have h2 : B ∉ O := fun hb => hd B hb (by simp)
  have h3 : ∀ i (hi : i < bs.length), bs[i] ∉ O := fun i hi hb => hd _ hb (by simp)
  obtain ⟨p, c, g1, g2⟩ := h.hm
  refine ⟨h.lim, h.lb, hm.rd h1 h.hn, ⟨p, c, hm.rd h1 g1, g2⟩, fun i hi => hm.rd h2 (h.ptr i hi), fun i hi j hj => hm.rd (h3 i hi) (h.row i hi j hj), h.out, h.nd, fun b hb => ?_⟩
  rw [eq_of_mod hm (fun hbO => hd b hbO hb) (h.there b hb)]
  exact h.there b hb
theorem RFO.mod (h : RFO H m O n M) (hm : Mod P H H') (hd : ∀ b ∈ P, b ∉ O) : RFO H' m O n M := by
  obtain ⟨B, bs, rfl, h⟩ := h
  exact ⟨B, bs, rfl, h.mod hm hd⟩
theorem RFO.le (h : RFO H m O n M) (hm : Le H H') : RFO H' m O n M := h.mod (P := []) hm.mod (by simp)
theorem RFO.lim (h : RFO H m O n M) : n ≤ 200 := by obtain ⟨B, bs, rfl, h⟩ := h; exact h.lim
theorem RFO.sup (h : RFO H m O n M) : Sup M n := by obtain ⟨B, bs, rfl, h⟩ := h; exact h.out
theorem RFO.there (h : RFO H m O n M) : ∀ b ∈ O, H b ≠ none := by obtain ⟨B, bs, rfl, h⟩ := h; exact h.there
theorem RFO.congr (h : RFO H m O n M) (e : ∀ a b, M' a b = M a b) : RFO H m O n M' := by
  have : M' = M := funext fun a => funext fun b => e a b
  rw [this]; exact h
theorem RF.congr (h : RF H m B bs n M) (e : ∀ a b, M' a b = M a b) : RF H m B bs n M' := by
  have : M' = M := funext fun a => funext fun b => e a b
  rw [this]; exact h
theorem RFO.apart (h : RFO H m O n M) (hP : ∀ b ∈ P, H b = none) : (∀ b ∈ P, b ∉ O) ∧ (∀ b ∈ O, b ∉ P) :=
  ⟨fun b hb hb' => h.there b hb' (hP b hb), fun b hb hb' => h.there b hb (hP b hb')⟩
theorem RF.len (h : RF H m B bs n M) {F : Int → Prop} (hF : F (n : Nat)) : NIL (some ⟨m, 0, none⟩) fun b o => ldI .i64 (rd H b o) F := nil (ldI_i h.hn hF)
theorem RFO.len (h : RFO H m O n M) {F : Int → Prop} (hF : F (n : Nat)) : NIL (some ⟨m, 0, none⟩) fun b o => ldI .i64 (rd H b o) F := by obtain ⟨B, bs, rfl, h⟩ := h; exact h.len hF
theorem RF.rowAt (h : RF H m B bs n M) {i : Int} {a : Nat} (hi : i = (a : Int)) (ha : a < n) {F : Option Addr → Nat → Nat → Prop} (hF : F (some ⟨bs[a]'(by rw [h.lb]; exact ha), 0, none⟩) n n) :
    NIL (some ⟨m, 0, none⟩) fun b o => ldL (rd H b (o + 1)) fun xp xl _ => IDX i xl fun k => NIL xp fun b' o' => ldL (rd H b' (o' + k)) F := by
  obtain ⟨p, c, g1, g2, g3⟩ := h.hm
  obtain rfl := g3.resolve_left (by omega)
  refine nil ?_
  refine ldL_i (by rw [Nat.zero_add]; exact g1) ?_
  refine idxN a hi ha ?_
  refine nil ?_
  exact ldL_i (by rw [Nat.zero_add]; exact h.ptr a (by rw [h.lb]; exact ha)) hF
theorem RF.get (h : RF H m B bs n M) {i j : Int} {a b : Nat} (hi : i = (a : Int)) (ha : a < n) (hj : j = (b : Int)) (hb : b < n) {F : Bool → Prop} (hF : F (M a b)) :
    NIL (some ⟨m, 0, none⟩) fun b o => ldL (rd H b (o + 1)) fun xp xl _ => IDX i xl fun k => NIL xp fun b' o' => ldL (rd H b' (o' + k)) fun xq xm _ => IDX j xm fun k2 => NIL xq fun b2 o2 => ldB (rd H b2 (o2 + k2)) F := by
  refine h.rowAt hi ha ?_
  refine idxN b hj hb ?_
  refine nil ?_
  exact ldB_i (by rw [Nat.zero_add]; exact h.row a (by rw [h.lb]; exact ha) b hb) hF
theorem RFO.get (h : RFO H m O n M) {i j : Int} {a b : Nat} (hi : i = (a : Int)) (ha : a < n) (hj : j = (b : Int)) (hb : b < n) {F : Bool → Prop} (hF : F (M a b)) :
    NIL (some ⟨m, 0, none⟩) fun b o => ldL (rd H b (o + 1)) fun xp xl _ => IDX i xl fun k => NIL xp fun b' o' => ldL (rd H b' (o' + k)) fun xq xm _ => IDX j xm fun k2 => NIL xq fun b2 o2 => ldB (rd H b2 (o2 + k2)) F := by
  obtain ⟨B, bs, rfl, h⟩ := h; exact h.get hi ha hj hb hF
/-- A cell written. -/
theorem RF.set (h : RF H m B bs n M) {a b : Nat} (ha : a < n) (hb : b < n) {v : Bool} : RF (wr H (bs[a]'(by rw [h.lb]; exact ha)) b (.bool v)) m B bs n (fun x y => if x = a ∧ y = b then v else M x y) := by
  have ha' : a < bs.length := by rw [h.lb]; exact ha
  have hnd := h.nd.resolve_left (by omega)
  simp only [List.nodup_cons, List.mem_cons, not_or] at hnd
  obtain ⟨⟨n1, n2⟩, n3, n4⟩ := hnd
  have e1 : m ≠ bs[a] := fun e => n2 (e ▸ List.getElem_mem ha')
  have e2 : B ≠ bs[a] := fun e => n3 (e ▸ List.getElem_mem ha')
  obtain ⟨p, c, g1, g2⟩ := h.hm
  refine ⟨h.lim, h.lb, by rw [rd_wr_ne e1]; exact h.hn, ⟨p, c, by rw [rd_wr_ne e1]; exact g1, g2⟩, fun i hi => by rw [rd_wr_ne e2]; exact h.ptr i hi, fun i hi j hj => ?_, fun x y hxy => ?_, h.nd, fun x hx => ?_⟩
  · by_cases e : i = a
    · subst e
      by_cases ej : j = b
      · subst ej; rw [rd_wr_self (h.row i hi j hj)]; simp
      · rw [rd_wr_off ej, h.row i hi j hj]; simp [ej]
    · have : bs[i] ≠ bs[a] := fun e' => e (nodup_inj n4 hi ha' e')
      rw [rd_wr_ne this, h.row i hi j hj]; simp [e]
  · rw [if_neg (by omega)]; exact h.out x y hxy
  · unfold wr
    split
    · subst_vars
      cases hH : H bs[a] with
      | none => exact absurd hH (h.there _ hx)
      | some d => intro e; cases e
    · exact h.there x hx
theorem RF.put (h : RF H m B bs n M) {i j : Int} {a b : Nat} (hi : i = (a : Int)) (ha : a < n) (hj : j = (b : Int)) (hb : b < n) {v : Bool} {F : Hp → Prop}
    (hF : ∀ H', RF H' m B bs n (fun x y => if x = a ∧ y = b then v else M x y) → Mod (m :: B :: bs) H H' → F H') :
    NIL (some ⟨m, 0, none⟩) fun b o => ldL (rd H b (o + 1)) fun xp xl _ => IDX i xl fun k => NIL xp fun b' o' => ldL (rd H b' (o' + k)) fun xq xm _ => IDX j xm fun k2 => NIL xq fun b2 o2 => ST H b2 (o2 + k2) (.bool v) F := by
  refine h.rowAt hi ha ?_
  refine idxN b hj hb ?_
  refine nil ?_
  refine st0 (h.row a (by rw [h.lb]; exact ha) b hb) ?_
  exact hF _ (h.set ha hb) (Mod.refl.wr (.inl (by simp)))
end

theorem centoref2_New.c {n : Int} {H : Hp} {K : Option Addr → Hp → Prop}
    (hK : ∀ m O H', RFO H' m O (max 0 (min n 200)).toNat (fun _ _ => false) → (∀ b ∈ O, H b = none) → Le H H' → K (some ⟨m, 0, none⟩) H') : centoref2_New.C n H K := by
  apply centoref2_New.of
  unfold centoref2_New.F
  obtain ⟨k, hk⟩ : ∃ k : Nat, max 0 (min n 200) = (k : Int) := ⟨(max 0 (min n 200)).toNat, by omega⟩
  rw [hk, Int.toNat_natCast] at hK
  rw [hk]
  intro m hm
  have le0 : Le H (upd H m [.int .i64 k, .slice none 0 0]) := .upd hm
  refine ⟨fun i H' => ∃ (i' : Nat) (bs : List Nat) (p : Option Addr) (l c : Nat), i = i' ∧ i' ≤ k ∧ bs.length = i' ∧ Le H H' ∧ rd H' m 0 = some (.int .i64 k) ∧ rd H' m 1 = some (.slice p l c) ∧ Buf 1 H H' p l c (bs.map fun b => Value.slice (some ⟨b, 0, none⟩) k k) ∧
      (∀ i (h : i < bs.length) j, j < k → rd H' bs[i] j = some (.bool false)) ∧ bs.Nodup ∧ (∀ b ∈ bs, b ≠ m ∧ p ≠ some ⟨b, 0, none⟩ ∧ H b = none ∧ H' b ≠ none) ∧ p ≠ some ⟨m, 0, none⟩, fun i _ => (k - i).toNat,
    ⟨0, [], none, 0, 0, rfl, by omega, rfl, le0, by rw [rd_upd_self]; rfl, by rw [rd_upd_self]; rfl, by simpa using Buf.none, fun i h => by simp at h, by simp, fun b hb => (by cases hb), by simp⟩, ?_⟩
  rintro i H1 ⟨i, bs, p, l, c, rfl, hi, hbl, le1, r0, r1, hB, hrow, hnd, hbs, hpm⟩
  have hl : l = i := by have := hB.1; simp at this; omega
  have hm1 : H1 m ≠ none := ne_none_of_rd r0
  refine ldI_i r0 ?_
  refine bcd (fun h => ?_) (fun h => ?_)
  · refine ldL_i r1 (ldI_i r0 ?_)
    refine mk rfl (by omega) (by omega) ?_
    intro b hb
    have le2 : Le H1 (upd H1 b (rep k [.bool false])) := .upd hb
    have rb : ∀ j, j < k → rd (upd H1 b (rep k [.bool false])) b j = some (.bool false) := fun j hj => rd_rep hj
    have hb2 : upd H1 b (rep k [.bool false]) b ≠ none := by unfold upd; rw [if_pos rfl]; intro e; cases e
    refine ⟨le2.rd r1, ?_⟩
    generalize upd H1 b (rep k [.bool false]) = H2 at *
    intro b' hb'
    have le3 : Le H2 (upd H2 b' [.slice (some ⟨b, 0, none⟩) k k]) := .upd hb'
    have le23 := le2.trans le3
    have hnew : upd H2 b' [.slice (some ⟨b, 0, none⟩) k k] b' = some [.slice (some ⟨b, 0, none⟩) k k] := by unfold upd; rw [if_pos rfl]
    have hbb : b ≠ b' := ne_of_none hb2 hb'
    refine ⟨le3.rd (le2.rd r1), ?_⟩
    have hb3 : upd H2 b' [.slice (some ⟨b, 0, none⟩) k k] b ≠ none := by rw [eq_of_le le3 hb2]; exact hb2
    generalize upd H2 b' [.slice (some ⟨b, 0, none⟩) k k] = H3 at *
    refine (hB.le le23).pushAt hnew rfl (by decide) rfl (by decide) rfl rfl (by simp [te_sl_bool]; omega) (fun p' c' H4 hB4 hp' hM => ?_) (le1.trans le23)
    have hpb : ∀ x, H1 x ≠ none → p ≠ some ⟨x, 0, none⟩ → x ∉ blkL p := fun x _ hx h => hx (blkL_mem hB.zero h)
    have hbp : b ∉ blkL p := fun h => hB.there (blkL_mem hB.zero h) hb
    have hmp : m ∉ blkL p := hpb m hm1 hpm
    have le4 : Le H H4 := hM.le (le1.trans le23) fun x hx => hB.fr x 0 (blkL_mem hB.zero hx)
    have r1' := hM.rd hmp (le23.rd r1)
    have m5 : Mod [m] H4 (wr H4 m 1 (.slice p' (l + 1) c')) := Mod.refl.wr (.inl (by simp))
    have hbm : b ≠ m := fun e => hm1 (e ▸ hb)
    have np : ∀ x, H3 x ≠ none → p ≠ some ⟨x, 0, none⟩ → p' ≠ some ⟨x, 0, none⟩ := fun x hx hpx e => by
      rcases hp' with rfl | hp'
      · exact hpx e
      · exact hx (hp' x 0 e)
    refine st r1' (chk (by omega) ⟨⟨i + 1, bs ++ [b], p', l + 1, c', by omega, by omega, by simp [hbl], le4.wr hm, ?_, rd_wr_self r1', ?_, ?_, ?_, ?_, ?_⟩, by first | omega | (dsimp only; omega)⟩)
    · rw [rd_wr_off (by decide)]; exact hM.rd hmp (le23.rd r0)
    · rw [List.map_append]
      exact hB4.mod m5 fun x o e hx => by
        simp at hx; subst hx
        have := hB4.zero _ e
        exact np x (by rw [eq_of_le le23 hm1]; exact hm1) hpm (by have h0 : o = 0 := this.1; rw [e, h0])
    · intro i' hi' j hj
      by_cases e : i' < bs.length
      · rw [List.getElem_append_left e]
        have hx := hbs _ (List.getElem_mem e)
        rw [rd_wr_ne hx.1]
        exact hM.rd (hpb _ hx.2.2.2 hx.2.1) (le23.rd (hrow i' e j hj))
      · have e1 : i' = bs.length := by simp at hi'; omega
        subst e1
        simp only [List.getElem_append_right (Nat.le_refl _), Nat.sub_self, List.getElem_singleton]
        rw [rd_wr_ne hbm]
        exact hM.rd hbp (le3.rd (rb j hj))
    · exact List.nodup_append.2 ⟨hnd, by simp, fun x hx y hy e => by simp at hy; subst hy; subst e; exact (hbs _ hx).2.2.2 hb⟩
    · intro x hx
      have wrn : ∀ x, H4 x ≠ none → wr H4 m 1 (.slice p' (l + 1) c') x ≠ none := fun x hx => by
        unfold wr
        split
        · subst_vars
          cases hH : H4 x with
          | none => exact absurd hH hx
          | some d => intro e; cases e
        · exact hx
      have hM4 : ∀ x, H3 x ≠ none → x ∉ blkL p → H4 x ≠ none := fun x hx hxp => by rw [eq_of_mod hM hxp hx]; exact hx
      rcases List.mem_append.1 hx with hx | hx
      · obtain ⟨g1, g2, g3, g4⟩ := hbs x hx
        have h3 : H3 x ≠ none := by rw [eq_of_le le23 g4]; exact g4
        exact ⟨g1, np x h3 g2, g3, wrn x (hM4 x h3 (hpb x g4 g2))⟩
      · simp at hx; subst hx
        have hpx : p ≠ some ⟨x, 0, none⟩ := fun e => hB.there e hb
        exact ⟨hbm, np x hb3 hpx, none_of_le le1 hb, wrn x (hM4 x hb3 hbp)⟩
    · exact np m (by rw [eq_of_le le23 hm1]; exact hm1) hpm
  · obtain rfl : i = k := by omega
    by_cases h0 : i = 0
    · subst h0
      have hbs0 : bs = [] := List.length_eq_zero_iff.1 hbl
      subst hbs0
      refine hK m [m, m] H1 ⟨m, [], rfl, ⟨by omega, rfl, r0, ⟨p, c, by rw [r1, hl], by omega, .inl rfl⟩, fun i h => by simp at h, fun i h => by simp at h, fun _ _ _ => rfl, .inl rfl, fun b hb => by simp at hb; subst hb; exact hm1⟩⟩ (fun b hb => by simp at hb; subst hb; exact hm) le1
    · obtain ⟨B, rfl⟩ := hB.some_of (by omega)
      have hB0 : H B = none := hB.fr B 0 rfl
      refine hK m (m :: B :: bs) H1 ⟨B, bs, rfl, ⟨by omega, hbl, r0, ⟨_, c, by rw [r1, hl], ?_, .inr rfl⟩, fun j hj => ?_, hrow, fun _ _ _ => rfl, .inr ?_, fun b hb => ?_⟩⟩ (fun b hb => ?_) le1
      · rcases hB.2 with ⟨h1, _⟩ | ⟨_, _, _, _, _, _, h5, _⟩
        · cases h1
        · omega
      · have := hB.rd (i := j) (v := .slice (some ⟨bs[j], 0, none⟩) i i) (by simp [hj])
        rwa [Nat.zero_add] at this
      · simp only [List.nodup_cons, List.mem_cons, not_or]
        refine ⟨⟨fun e => hpm (by rw [e]), fun h => (hbs m h).1 rfl⟩, fun h => (hbs B h).2.1 rfl, hnd⟩
      · rcases List.mem_cons.1 hb with rfl | hb
        · exact hm1
        rcases List.mem_cons.1 hb with rfl | hb
        · exact hB.there rfl
        · exact (hbs b hb).2.2.2
      · rcases List.mem_cons.1 hb with rfl | hb
        · exact hm
        rcases List.mem_cons.1 hb with rfl | hb
        · exact hB0
        · exact (hbs b hb).2.2.1

theorem centoref2_Rel_Is.c {m n : Nat} {M : Nat → Nat → Bool} {O : List Nat} {i : Int} {H : Hp} {K : Bool → Hp → Prop} (hu : RFO H m O n M) (hK : K (decide (0 ≤ i ∧ i < (n : Int))) H) : centoref2_Rel_Is.C (some ⟨m, 0, none⟩) i H K := by
  apply centoref2_Rel_Is.of
  refine bcd (fun h => ?_) fun h => ?_
  · refine hu.len ?_
    have e : decide (0 ≤ i ∧ i < (n : Int)) = decide (i < (n : Int)) := decide_eq_decide.2 ⟨fun g => g.2, fun g => ⟨h, g⟩⟩
    rw [← e]; exact hK
  · rwa [decide_eq_false (fun g => h g.1)] at hK
theorem centoref2_Rel_Has.c {m n : Nat} {M : Nat → Nat → Bool} {O : List Nat} {a b : Int} {H : Hp} {K : Bool → Hp → Prop} (hu : RFO H m O n M) (hK : K (hasM M a b) H) : centoref2_Rel_Has.C (some ⟨m, 0, none⟩) a b H K := by
  apply centoref2_Rel_Has.of
  have hs := hu.sup
  have no : (¬ (0 ≤ a ∧ a < (n : Int)) ∨ ¬ (0 ≤ b ∧ b < (n : Int))) → hasM M a b = false := fun h => by
    unfold hasM
    by_cases h0 : 0 ≤ a ∧ 0 ≤ b
    · rw [hs _ _ (by omega)]; simp
    · simp [h0]
  refine centoref2_Rel_Is.c hu ?_
  refine bcd (fun ha => ?_) fun h => by rwa [no (.inl h)] at hK
  refine centoref2_Rel_Is.c hu ?_
  refine bcd (fun hb => ?_) fun h => by rwa [no (.inr h)] at hK
  obtain ⟨a, rfl⟩ : ∃ k : Nat, a = k := ⟨a.toNat, by omega⟩
  obtain ⟨b, rfl⟩ : ∃ k : Nat, b = k := ⟨b.toNat, by omega⟩
  rw [hasM_nat] at hK
  exact hu.get rfl (by omega) rfl (by omega) hK

/-- Filled as far as (a, b). -/
def fillTo (M : Nat → Nat → Bool) (a b : Nat) : Nat → Nat → Bool := fun x y => M x y && (decide (x < a) || (decide (x = a) && decide (y < b)))
theorem fillTo_step {M : Nat → Nat → Bool} {a b : Nat} : (fun x y => if x = a ∧ y = b then M a b else fillTo M a b x y) = fillTo M a (b + 1) := by
  funext x y
  unfold fillTo
  by_cases e : x = a ∧ y = b
  · rw [if_pos e, e.1, e.2]; simp
  · rw [if_neg e]
    congr 1
    rw [Bool.eq_iff_iff]; simp; omega
theorem fillTo_row {M : Nat → Nat → Bool} {n a b : Nat} (hs : Sup M n) (hb : n ≤ b) : fillTo M (a + 1) 0 = fillTo M a b := by
  funext x y
  unfold fillTo
  by_cases hy : y < n
  · congr 1
    rw [Bool.eq_iff_iff]; simp; omega
  · rw [hs x y (.inr (by omega))]; simp
theorem fillTo_all {M : Nat → Nat → Bool} {n : Nat} (hs : Sup M n) : fillTo M n 0 = M := by
  funext x y
  unfold fillTo
  by_cases hx : x < n
  · simp [hx]
  · rw [hs x y (.inl (by omega))]; simp
theorem fillTo_zero {M : Nat → Nat → Bool} : fillTo M 0 0 = fun _ _ => false := by funext x y; simp [fillTo]

theorem centoref2_Rel_Copy.c {m n : Nat} {M : Nat → Nat → Bool} {O : List Nat} {H : Hp} {K : Option Addr → Hp → Prop} (hu : RFO H m O n M)
    (hK : ∀ m' O' H', RFO H' m' O' n M → (∀ b ∈ O', H b = none) → Le H H' → K (some ⟨m', 0, none⟩) H') : centoref2_Rel_Copy.C (some ⟨m, 0, none⟩) H K := by
  apply centoref2_Rel_Copy.of
  have hlim := hu.lim
  have hs := hu.sup
  refine hu.len ?_
  refine centoref2_New.c fun m' O' H1 u1 hO le1 => ?_
  rw [show (max 0 (min (n : Int) 200)).toNat = n by omega] at u1
  have hap := hu.apart hO
  refine ⟨fun t H' => ∃ a : Nat, t = a ∧ a ≤ n ∧ Le H H' ∧ RFO H' m O n M ∧ RFO H' m' O' n (fillTo M a 0), fun t _ => (n - t).toNat, ⟨0, rfl, by omega, le1, hu.le le1, by rw [fillTo_zero]; exact u1⟩, ?_⟩
  rintro t H2 ⟨a, rfl, ha, le2, v2, u2⟩
  refine v2.len ?_
  refine bcd (fun h => ?_) (fun h => ?_)
  · have han : a < n := by omega
    refine ⟨fun t H' => ∃ b : Nat, t = b ∧ b ≤ n ∧ Le H H' ∧ RFO H' m O n M ∧ RFO H' m' O' n (fillTo M a b), fun t _ => (n - t).toNat, ⟨0, rfl, by omega, le2, v2, u2⟩, ?_⟩
    rintro t H3 ⟨b, rfl, hb, le3, v3, u3⟩
    refine v3.len ?_
    refine bcd (fun h => ?_) (fun h => ?_)
    · have hbn : b < n := by omega
      obtain ⟨B', bs', rfl, u3⟩ := u3
      refine u3.rowAt rfl han ?_
      refine v3.get rfl han rfl hbn ?_
      refine idx hbn ?_
      refine nil ?_
      have hset := u3.set han hbn (v := M a b)
      rw [fillTo_step] at hset
      have mw : Mod (m' :: B' :: bs') H3 (wr H3 (bs'[a]'(by rw [u3.lb]; exact han)) b (.bool (M a b))) := Mod.refl.wr (.inl (by simp))
      refine st0 (u3.row a (by rw [u3.lb]; exact han) b hbn) ?_
      exact chk (by omega) ⟨⟨b + 1, by omega, by omega, mw.le le3 hO, v3.mod mw hap.1, ⟨B', bs', rfl, hset⟩⟩, by first | omega | (dsimp only; omega)⟩
    · refine chk (by omega) ⟨⟨a + 1, by omega, by omega, le3, v3, ?_⟩, by first | omega | (dsimp only; omega)⟩
      rw [fillTo_row hs (b := b) (by omega)]; exact u3
  · obtain rfl : a = n := by omega
    rw [fillTo_all hs] at u2
    exact hK m' O' H2 u2 hO le2

theorem centoref2_Rel_Closure.c {m n : Nat} {M : Nat → Nat → Bool} {O : List Nat} {H : Hp} {K : Option Addr → Hp → Prop} (hu : RFO H m O n M)
    (hK : ∀ m' O' H', RFO H' m' O' n (clo M n) → (∀ b ∈ O', H b = none) → Le H H' → K (some ⟨m', 0, none⟩) H') : centoref2_Rel_Closure.C (some ⟨m, 0, none⟩) H K := by
  apply centoref2_Rel_Closure.of
  have hlim := hu.lim
  have hs := hu.sup
  refine centoref2_Rel_Copy.c hu fun m' O' H1 u1 hO le1 => ?_
  refine ⟨fun t H' => ∃ k : Nat, t = k ∧ k ≤ n ∧ Le H H' ∧ RFO H' m' O' n (cloK M n k), fun t _ => (n - t).toNat, ⟨0, rfl, by omega, le1, u1⟩, ?_⟩
  rintro t H2 ⟨k, rfl, hk, le2, u2⟩
  refine u2.len ?_
  refine bcd (fun h => ?_) (fun h => ?_)
  · have hkn : k < n := by omega
    refine ⟨fun t H' => ∃ a : Nat, t = a ∧ a ≤ n ∧ Le H H' ∧ RFO H' m' O' n (cloA (cloK M n k) k a), fun t _ => (n - t).toNat, ⟨0, rfl, by omega, le2, u2⟩, ?_⟩
    rintro t H3 ⟨a, rfl, ha, le3, u3⟩
    refine u3.len ?_
    refine bcd (fun h => ?_) (fun h => ?_)
    · have han : a < n := by omega
      have e0 : cloA (cloK M n k) k (a + 1) = if cloA (cloK M n k) k a a k then fun x y => if x = a then cloA (cloK M n k) k a a y || cloA (cloK M n k) k a k y else cloA (cloK M n k) k a x y else cloA (cloK M n k) k a := rfl
      refine u3.get rfl han rfl hkn ?_
      refine bcn (fun hh => ?_) (fun hh => ?_)
      · rw [if_neg (by rw [hh]; simp)] at e0
        exact chk (by omega) ⟨⟨a + 1, by omega, by omega, le3, by rw [e0]; exact u3⟩, by first | omega | (dsimp only; omega)⟩
      · rw [if_pos hh] at e0
        generalize hN : cloA (cloK M n k) k a = N at *
        have hNs : Sup N n := u3.sup
        refine ⟨fun t H' => ∃ b : Nat, t = b ∧ b ≤ n ∧ Le H H' ∧ RFO H' m' O' n (fun x y => if x = a ∧ y < b then N a y || N k y else N x y), fun t _ => (n - t).toNat, ⟨0, rfl, by omega, le3, u3.congr fun x y => by rw [if_neg (by omega)]⟩, ?_⟩
        rintro t H4 ⟨b, rfl, hb, le4, u4⟩
        refine u4.len ?_
        refine bcd (fun h => ?_) (fun h => ?_)
        · have hbn : b < n := by omega
          have hkb : (if k = a ∧ b < b then N a b || N k b else N k b) = N k b := by rw [if_neg (by omega)]
          refine u4.get rfl hkn rfl hbn ?_
          rw [hkb]
          have hst : ∀ {x y}, (if x = a ∧ y < b + 1 then N a y || N k y else N x y) = (if x = a ∧ y = b then N a b || N k b else if x = a ∧ y < b then N a y || N k y else N x y) := fun {x y} => by
            by_cases e1 : x = a ∧ y = b
            · rw [if_pos e1, if_pos (by omega), e1.2]
            · rw [if_neg e1]
              by_cases e2 : x = a ∧ y < b
              · rw [if_pos e2, if_pos (by omega)]
              · rw [if_neg e2, if_neg (by omega)]
          refine bc_i (fun hkt => ?_) (fun hkf => ?_)
          · obtain ⟨B', bs', rfl, u4⟩ := u4
            refine u4.put rfl han rfl hbn fun H5 u5 m5 => ?_
            refine chk (by omega) ⟨⟨b + 1, by omega, by omega, m5.le le4 hO, ⟨B', bs', rfl, u5.congr fun x y => ?_⟩⟩, by first | omega | (dsimp only; omega)⟩
            rw [hst, hkt, Bool.or_true]
          · refine chk (by omega) ⟨⟨b + 1, by omega, by omega, le4, u4.congr fun x y => ?_⟩, by first | omega | (dsimp only; omega)⟩
            rw [hst, hkf, Bool.or_false]
            by_cases e1 : x = a ∧ y = b
            · rw [if_pos e1, if_neg (by omega), e1.1, e1.2]
            · rw [if_neg e1]
        · obtain rfl : b = n := by omega
          refine chk (by omega) ⟨⟨a + 1, by omega, by omega, le4, u4.congr fun x y => ?_⟩, by first | omega | (dsimp only; omega)⟩
          rw [e0]
          by_cases hx : x = a
          · subst hx
            simp only [if_true]
            by_cases hy : y < b
            · rw [if_pos ⟨by trivial, hy⟩]
            · rw [if_neg (fun g => hy g.2), hNs x y (.inr (by omega)), hNs k y (.inr (by omega))]; rfl
          · simp only [if_neg hx]
            rw [if_neg (fun g => hx g.1)]
    · obtain rfl : a = n := by omega
      exact chk (by omega) ⟨⟨k + 1, by omega, by omega, le3, u3⟩, by first | omega | (dsimp only; omega)⟩
  · obtain rfl : k = n := by omega
    exact hK m' O' H2 u2 hO le2
end Go.Proofs.YtganockeifkecaaDoor
namespace Go.Proofs.YtganockeifkecaaDoor
open Go.V
theorem addSet {M : Nat → Nat → Bool} {n a b : Nat} (ha : a < n) (hb : b < n) : (fun x y => if x = a ∧ y = b then true else M x y) = addM M n a b := by
  funext x y
  unfold addM
  by_cases e : x = a ∧ y = b
  · rw [if_pos e, decide_eq_true (by omega)]; simp
  · rw [if_neg e, decide_eq_false (by omega), Bool.or_false]

end Go.Proofs.YtganockeifkecaaDoor
namespace Go.Proofs.YtganockeifkecaaDoor
open Go.V
/-! ### Circles -/
def oneM (M : Nat → Nat → Bool) (a b : Nat) : Bool := decide (a = b) || (M a b && M b a)
/-- No smaller one is in a's class. -/
def fstM (M : Nat → Nat → Bool) (a : Nat) : Bool := (List.range a).all fun b => !oneM M a b
def clsM (M : Nat → Nat → Bool) (n a : Nat) : List Nat := els (fun b => decide (a ≤ b) && oneM M a b) n
def hdsM (M : Nat → Nat → Bool) (n : Nat) : List Nat := els (fstM M) n
def crcT (M : Nat → Nat → Bool) (n t : Nat) : List (List Nat) := (els (fstM M) t).map (clsM M n)
def crc (M : Nat → Nat → Bool) (n : Nat) : List (List Nat) := (hdsM M n).map (clsM M n)
theorem oneM_symm {M : Nat → Nat → Bool} {a b : Nat} : oneM M a b = oneM M b a := by
  unfold oneM
  rw [Bool.and_comm, decide_eq_decide.2 (eq_comm (a := a) (b := b))]
theorem oneM_iff {M : Nat → Nat → Bool} {a b : Nat} : oneM M a b = true ↔ a = b ∨ (M a b = true ∧ M b a = true) := by unfold oneM; simp
theorem oneM_trans {M : Nat → Nat → Bool} (hT : Tr M) {a b c : Nat} (h : oneM M a b = true) (h' : oneM M b c = true) : oneM M a c = true := by
  rw [oneM_iff] at *
  rcases h with rfl | h
  · exact h'
  rcases h' with rfl | h'
  · exact .inr h
  · exact .inr ⟨hT _ _ _ h.1 h'.1, hT _ _ _ h'.2 h.2⟩
theorem fstM_iff {M : Nat → Nat → Bool} {a : Nat} : fstM M a = true ↔ ∀ b, b < a → oneM M a b = false := by unfold fstM; simp
/-- Everyone has a first one in its class. -/
theorem first_of {M : Nat → Nat → Bool} (hT : Tr M) (x : Nat) : ∃ a, a ≤ x ∧ fstM M a = true ∧ oneM M a x = true := by
  induction x using Nat.strongRecOn with
  | _ x ih =>
    cases h : fstM M x with
    | true => exact ⟨x, Nat.le_refl _, h, by simp [oneM]⟩
    | false =>
      have : ∃ b, b < x ∧ oneM M x b = true := Classical.byContradiction fun g => by
        rw [fstM_iff.2 fun b hb => by cases e : oneM M x b; rfl; exact absurd ⟨b, hb, e⟩ g] at h; cases h
      obtain ⟨b, hb, h1⟩ := this
      obtain ⟨a, ha, h2, h3⟩ := ih b hb
      exact ⟨a, by omega, h2, oneM_trans hT h3 (by rw [oneM_symm]; exact h1)⟩
theorem first_uniq {M : Nat → Nat → Bool} (hT : Tr M) {a b x : Nat} (ha : fstM M a = true) (hb : fstM M b = true) (h : oneM M a x = true) (h' : oneM M b x = true) : a = b := by
  have h1 := oneM_trans hT h (by rw [oneM_symm]; exact h')
  rcases Nat.lt_trichotomy a b with g | g | g
  · have := fstM_iff.1 hb a g; rw [oneM_symm, h1] at this; cases this
  · exact g
  · have := fstM_iff.1 ha b g; rw [h1] at this; cases this
/-- Who has been seen as far as t, and of t's class below i. -/
def seenM (M : Nat → Nat → Bool) (t x : Nat) : Bool := (List.range t).any fun a => fstM M a && (decide (a < x) && M a x && M x a)
theorem seenM_self {M : Nat → Nat → Bool} (hT : Tr M) (t : Nat) : seenM M t t = !fstM M t := by
  rw [Bool.eq_iff_iff, Bool.not_eq_true']
  unfold seenM
  simp only [List.any_eq_true, List.mem_range, Bool.and_eq_true, decide_eq_true_eq]
  constructor
  · rintro ⟨a, _, _, ⟨ha, h1⟩, h2⟩
    cases h : fstM M t with
    | false => rfl
    | true =>
      have := fstM_iff.1 h a ha
      rw [oneM_iff.2 (.inr ⟨h2, h1⟩)] at this; cases this
  · intro h
    obtain ⟨a, ha, h1, h2⟩ := first_of hT t
    rcases oneM_iff.1 h2 with rfl | h2
    · rw [h] at h1; cases h1
    · have : a ≠ t := fun e => by subst e; rw [h] at h1; cases h1
      exact ⟨a, by omega, h1, ⟨by omega, h2.1⟩, h2.2⟩
theorem seenM_succ {M : Nat → Nat → Bool} {t x : Nat} : seenM M (t + 1) x = (seenM M t x || (fstM M t && (decide (t < x) && M t x && M x t))) := by
  unfold seenM; rw [List.range_succ, List.any_append]; simp
/-- The program's class, as far as i. -/
def behM (M : Nat → Nat → Bool) (a : Nat) (b : Nat) : Bool := decide (a < b) && M a b && M b a
theorem clsM_eq {M : Nat → Nat → Bool} {a : Nat} : ∀ i, a < i → els (fun b => decide (a ≤ b) && oneM M a b) i = a :: els (behM M a) i
  | 0, h => absurd h (Nat.not_lt_zero _)
  | i + 1, h => by
    by_cases e : a = i
    · subst e
      have h1 : els (fun b => decide (a ≤ b) && oneM M a b) a = [] := by
        unfold els; rw [List.filter_eq_nil_iff]; intro b hb; simp at hb ⊢; intro; omega
      have h2 : els (behM M a) (a + 1) = [] := by
        unfold els behM; rw [List.filter_eq_nil_iff]; intro b hb; simp at hb ⊢; intro h; omega
      rw [els_on (by simp [oneM]), h1, h2]; rfl
    · have ih := clsM_eq (M := M) (a := a) i (by omega)
      have e2 : (decide (a ≤ i) && oneM M a i) = behM M a i := by
        have h1 : a ≤ i := by omega
        have h2 : a < i := by omega
        unfold oneM behM; simp [h1, h2, e]
      cases hb : behM M a i with
      | true => rw [els_on (by rw [e2, hb]), els_on hb, ih]; rfl
      | false => rw [els_off (by rw [e2, hb]), els_off hb, ih]
theorem clsM_prog {M : Nat → Nat → Bool} {n a : Nat} (h : a < n) : clsM M n a = a :: els (behM M a) n := clsM_eq n h
theorem clsM_len {M : Nat → Nat → Bool} {n a : Nat} : (clsM M n a).length ≤ n := els_len_le _ _
theorem clsM_mem {M : Nat → Nat → Bool} {n a x : Nat} : x ∈ clsM M n a ↔ x < n ∧ a ≤ x ∧ oneM M a x = true := by unfold clsM; rw [els_mem]; simp
theorem crcT_len {M : Nat → Nat → Bool} {n t : Nat} : (crcT M n t).length ≤ t := by unfold crcT; rw [List.length_map]; exact els_len_le _ _
theorem crcT_on {M : Nat → Nat → Bool} {n t : Nat} (h : fstM M t = true) : crcT M n (t + 1) = crcT M n t ++ [clsM M n t] := by unfold crcT; rw [els_on h]; simp
theorem crcT_off {M : Nat → Nat → Bool} {n t : Nat} (h : fstM M t = false) : crcT M n (t + 1) = crcT M n t := by unfold crcT; rw [els_off h]
theorem hds_mem {M : Nat → Nat → Bool} {n a : Nat} : a ∈ hdsM M n ↔ a < n ∧ fstM M a = true := els_mem
theorem hds_nodup {M : Nat → Nat → Bool} {n : Nat} : (hdsM M n).Nodup := by unfold hdsM els; exact List.nodup_range.filter _

/-- One row less. -/
theorem slices_Delete_int_int.c {A H : Hp} {p : Option Addr} {l c : Nat} {hs : List Hd} {i : Nat} {j : Int} {K : Option Addr → Nat → Nat → Hp → Prop} (hB : Buf 1 A H p l c (hs.map hv)) (hi : i < hs.length) (hj : j = (i : Int) + 1)
    (hK : ∀ H', Buf 1 A H' p (l - 1) c ((hs.eraseIdx i).map hv) → Mod (blkL p) H H' → K p (l - 1) c H') : slices_Delete_int_int.C p l c (i : Int) j H K := by
  apply slices_Delete_int_int.of
  have hl : l = hs.length := by have := hB.1; simpa using this
  have hsl := hB.sl
  obtain ⟨b, rfl⟩ := hB.some_of (by omega)
  rcases hB.2 with ⟨h0, _, _⟩ | ⟨b', rest, h1, h2, h3, h4, h5, h6⟩
  · cases h0
  simp only [Option.some.injEq, Addr.mk.injEq, and_true] at h1
  subst h1
  subst hj
  refine ⟨l, rfl, h5, ?_⟩
  refine ⟨i, i + 1, rfl, by omega, by omega, by omega, ?_⟩
  refine bcd (fun h => absurd h (by omega)) fun _ => ?_
  refine ⟨i, rfl, by omega, ?_⟩
  refine ⟨i + 1, by omega, by omega, ?_⟩
  have em : movA (some ⟨b, 0, none⟩) 0 1 c = some ⟨b, 0, none⟩ := by unfold movA; simp [mulS]
  rw [em]
  have hsrc := hsl.slice (j := i + 1) (k := l) (by omega) (by omega)
  have hlast : ∃ z, hs.drop i = (hs.drop i).take (l - (i + 1)) ++ [z] := by
    have hd : (hs.drop i).length = (l - (i + 1)) + 1 := by simp; omega
    refine ⟨(hs.drop i)[l - (i + 1)]'(by omega), ?_⟩
    rw [List.take_append_getElem, List.take_of_length_le (by omega)]
  obtain ⟨z, hz⟩ := hlast
  have hblk : H b = some ((hs.take i).map hv ++ (((hs.drop i).take (l - (i + 1))).map hv ++ (hv z :: rest))) := by
    rw [h3]
    conv => lhs; rw [← List.take_append_drop i hs, hz]
    simp
  have hall : ((hs.take i).map hv ++ (((hs.drop i).take (l - (i + 1))).map hv ++ (hv z :: rest))).all isCell = true := by
    have e : hs.map hv ++ rest = (hs.take i).map hv ++ (((hs.drop i).take (l - (i + 1))).map hv ++ (hv z :: rest)) := by rw [h3] at hblk; exact Option.some.inj hblk
    rw [← e]; exact h6
  have hlt : (hs.take i).length = i := by simp; omega
  have hnew : (((hs.take l).drop (i + 1)).map hv).length = l - (i + 1) := by simp; omega
  have hcells : ∀ ys : List Hd, (ys.map hv).all isCell = true := fun ys => by rw [List.all_eq_true]; intro v hvv; obtain ⟨y, _, rfl⟩ := List.mem_map.1 hvv; rfl
  unfold APP
  refine sl_srcG hsrc (by simp only [movA]; split <;> exact PtOk.some) _ ?_
  have hT : te_sl_int.size = 1 := rfl
  rw [hT]
  refine ⟨fun _ => ⟨fun x hx => ?_, fun v hvv => List.all_eq_true.1 (hcells _) v hvv, ?_⟩, fun hgt => absurd hgt (by omega)⟩
  · unfold rd; rw [hblk]
    have hx' : 0 + (i - 0) * 1 + x < ((hs.take i).map hv ++ (((hs.drop i).take (l - (i + 1))).map hv ++ (hv z :: rest))).length := by
      rw [hnew] at hx
      simp; omega
    simp only [Option.bind_some, List.getElem?_eq_getElem hx']
    rw [all_get hall (List.getElem?_eq_getElem hx')]; rfl
  · have hw := wrN_at b (((hs.take l).drop (i + 1)).map hv) ((hs.take i).map hv) (((hs.drop i).take (l - (i + 1))).map hv) (hv z :: rest) H (by rw [hnew]; simp; omega) hblk
    have e0 : 0 + (i - 0) * 1 = ((hs.take i).map hv).length := by simp; omega
    rw [e0]
    generalize hH1 : wrN H b ((hs.take i).map hv).length (((hs.take l).drop (i + 1)).map hv) = H1 at *
    have m1 : Mod (blkL (some ⟨b, 0, none⟩)) H H1 := fun x hx d hd => by
      rw [← hH1, rd_wrN_ne _ _ _ _ _ (by simpa [blkL] using hx)]; exact hd
    have el : i - 0 + (l - (i + 1)) = l - 1 := by omega
    rw [el]
    refine ⟨l - 1, l, rfl, rfl, by omega, by omega, ?_⟩
    have hc : ¬ (c = l - 1) := by omega
    have em2 : movA (some ⟨b, 0, none⟩) (l - 1) 1 c = some ⟨b, l - 1, none⟩ := by simp [movA, hc, mulS]
    have e1 : l - (l - 1) = 1 := by omega
    show CLR H1 te_sl_int (movA (some ⟨b, 0, none⟩) (l - 1) 1 c) (l - (l - 1)) fun Hx22 => K (some ⟨b, 0, none⟩) (l - 1) c Hx22
    rw [em2, e1]
    have hpre : ((hs.take i).map hv ++ ((hs.take l).drop (i + 1)).map hv) = (hs.eraseIdx i).map hv := by
      have ht : hs.take l = hs := List.take_of_length_le (by omega)
      rw [← List.map_append, List.eraseIdx_eq_take_drop_succ, ht]
    have hw2 : H1 b = some ((hs.eraseIdx i).map hv ++ ([hv z] ++ rest)) := by rw [hw, ← hpre]; simp
    have hpl : ((hs.eraseIdx i).map hv).length = l - 1 := by simp [List.length_eraseIdx, hi]; omega
    have hr : rep 1 te_sl_int.zc = [.slice none 0 0] := rfl
    refine ⟨fun x hx => ?_, fun v hvv => ?_, ?_⟩
    · rw [hr] at hx
      simp at hx; subst hx
      unfold rd; rw [hw2]
      simp only [Option.bind_some, Nat.add_zero]
      rw [List.getElem?_append_right (by omega), hpl]
      simp [hv, nmO]
    · rw [hr] at hvv; simp at hvv; subst hvv; rfl
    · rw [hr]
      have hw3 := wrN_at b [.slice none 0 0] ((hs.eraseIdx i).map hv) [hv z] rest H1 rfl hw2
      rw [hpl] at hw3
      have m2 : Mod (blkL (some ⟨b, 0, none⟩)) H (wrN H1 b (l - 1) [.slice none 0 0]) := fun x hx d hd => by
        rw [rd_wrN_ne _ _ _ _ _ (by simpa [blkL] using hx)]; exact m1 x hx d hd
      refine hK _ ⟨by simpa using hpl.symm, .inr ⟨b, .slice none 0 0 :: rest, rfl, h2, by rw [hw3]; simp, ?_, by omega, ?_⟩⟩ m2
      · simp at h4 ⊢; simp at hpl; omega
      · rw [List.all_append, hcells, Bool.true_and, List.all_cons]
        rw [List.all_append, Bool.and_eq_true] at h6
        exact h6.2
end Go.Proofs.YtganockeifkecaaDoor
namespace Go.Proofs.YtganockeifkecaaDoor
open Go.V
theorem rel_Rel_Behind.c {R B n : Nat} {rs qs : List Nat} {M : Nat → Nat → Bool} {H : Hp} {K : Value → Hp → Prop} (hu : RL H R B rs qs n M) {a : Nat} (ha : a < n)
    (hK : ∀ cap H', H cap = none → rd H' cap 0 = some (.pointer (some ⟨rs[a]'(by rw [hu.lr]; exact ha), 0, none⟩)) → Le H H' → K (.func (.func bits_Row_Each_1.num) ⟨[]⟩ ⟨[.pointer (some ⟨cap, 0, none⟩)]⟩) H') :
    rel_Rel_Behind.C (some ⟨R, 0, none⟩) (a : Int) H K := by
  apply rel_Rel_Behind.of
  refine rel_Rel_there.c ⟨B, rs, qs, rfl, hu⟩ ?_
  have e : decide (0 ≤ (a : Int) ∧ (a : Int) < (n : Int)) = true := decide_eq_true ⟨by omega, by omega⟩
  rw [e]
  refine bcF ?_
  refine hu.at rfl ha ?_
  exact bits_Row_Each.c hK

theorem order_circles.c {c n : Nat} {M : Nat → Nat → Bool} {O : List Nat} {H : Hp} {K : Option Addr → Nat → Nat → Hp → Prop} (hu : RLO H c O n M) (hT : Tr M)
    (hK : ∀ p l cc H', Rw H H' p l cc (crc M n) → Le H H' → K p l cc H') : order_circles.C (some ⟨c, 0, none⟩) H K := by
  apply order_circles.of
  have hlim := hu.lim
  intro b2 hb2
  have le1 : Le H (upd H b2 [.pointer (some ⟨c, 0, none⟩)]) := .upd hb2
  have r2 : rd (upd H b2 [.pointer (some ⟨c, 0, none⟩)]) b2 0 = some (.pointer (some ⟨c, 0, none⟩)) := by rw [rd_upd_self]; rfl
  refine ldP_i r2 ?_
  generalize upd H b2 [.pointer (some ⟨c, 0, none⟩)] = H1 at *
  refine rel_Rel_Len.c (hu.le le1) ?_
  refine mk rfl (by omega) (by omega) ?_
  intro b10 hb10
  have le2 : Le H1 (upd H1 b10 (rep n [.bool false])) := .upd hb10
  have rs2 : ∀ x, x < n → rd (upd H1 b10 (rep n [.bool false])) b10 x = some (.bool false) := fun x hx => rd_rep hx
  have t10 : upd H1 b10 (rep n [.bool false]) b10 ≠ none := by unfold upd; rw [if_pos rfl]; intro e; cases e
  generalize upd H1 b10 (rep n [.bool false]) = H2 at *
  intro b12 hb12
  have le3 : Le H2 (upd H2 b12 [.slice none 0 0]) := .upd hb12
  have r12 : rd (upd H2 b12 [.slice none 0 0]) b12 0 = some (.slice none 0 0) := by rw [rd_upd_self]; rfl
  refine st r12 ?_
  have le3' : Le H2 (wr (upd H2 b12 [.slice none 0 0]) b12 0 (.slice (some ⟨b10, 0, none⟩) n n)) := le3.wr hb12
  have r12' := rd_wr_self (v := .slice (some ⟨b10, 0, none⟩) n n) r12
  generalize wr (upd H2 b12 [.slice none 0 0]) b12 0 (.slice (some ⟨b10, 0, none⟩) n n) = H3 at *
  refine ldL_i r12' ?_
  have r2' := (le2.trans le3').rd r2
  have rs3 : ∀ x, x < n → rd H3 b10 x = some (.bool false) := fun x hx => le3'.rd (rs2 x hx)
  have t10' : H3 b10 ≠ none := by rw [eq_of_le le3' t10]; exact t10
  have leH3 : Le H H3 := (le1.trans le2).trans le3'
  have n2 : b2 ≠ b10 := ne_of_none (ne_none_of_rd r2) hb10
  have n12 : b12 ≠ b10 := fun e => t10 (e ▸ hb12)
  have fr10 : H b10 = none := none_of_le le1 hb10
  refine ⟨fun outp outl outc t Hx => ∃ t' : Nat, t = t' ∧ t' ≤ n ∧ Mod [b10] H3 Hx ∧ Hx b10 ≠ none ∧ (∀ x, x < n → rd Hx b10 x = some (.bool (seenM M t' x))) ∧ Rw H3 Hx outp outl outc (crcT M n t'), fun _ _ _ t _ => (n - t).toNat,
    ⟨0, rfl, by omega, .refl, t10', fun x hx => by rw [rs3 x hx]; simp [seenM], Rw.none⟩, ?_⟩
  rintro outp outl outc t Hx ⟨t, rfl, ht, mx, tx, hs, hR⟩
  refine bcd (fun h => ?_) (fun h => ?_)
  · have htn : t < n := by omega
    have rx2 : rd Hx b2 0 = some (.pointer (some ⟨c, 0, none⟩)) := mx.rd (by simpa using n2) r2'
    have rx12 : rd Hx b12 0 = some (.slice (some ⟨b10, 0, none⟩) n n) := mx.rd (by simpa using n12) r12'
    have leHx : Le H Hx := mx.le leH3 (none1 fr10)
    intro b25 hb25
    have le5 : Le Hx (upd Hx b25 [.int .i64 0]) := .upd hb25
    have r25 : rd (upd Hx b25 [.int .i64 0]) b25 0 = some (.int .i64 0) := by rw [rd_upd_self]; rfl
    refine st r25 ?_
    have le5' : Le Hx (wr (upd Hx b25 [.int .i64 0]) b25 0 (.int .i64 t)) := le5.wr hb25
    have r25' := rd_wr_self (v := .int .i64 (t : Int)) r25
    generalize wr (upd Hx b25 [.int .i64 0]) b25 0 (.int .i64 t) = H5 at *
    refine ldL_i (le5'.rd rx12) ?_
    refine ldI_i r25' ?_
    refine idxN t rfl htn ?_
    refine nil ?_
    refine ldB_i (by rw [Nat.zero_add]; exact le5'.rd (hs t htn)) ?_
    rw [seenM_self hT]
    cases hf : fstM M t with
    | false =>
      refine bcT ?_
      refine chk (by omega) ⟨⟨t + 1, by omega, by omega, mx.andLe le5', by rw [eq_of_le le5' tx]; exact tx, fun x hx => ?_, ?_⟩, by first | omega | (dsimp only; omega)⟩
      · rw [le5'.rd (hs x hx), seenM_succ, hf]; simp
      · rw [crcT_off hf]; exact hR.le le5'
    | true =>
      refine bcF ?_
      refine ldI_i r25' ?_
      intro b42 hb42
      have le6 : Le H5 (upd H5 b42 [.int .i64 t]) := .upd hb42
      have c42 : upd H5 b42 [.int .i64 t] b42 = some [.int .i64 t] := by unfold upd; rw [if_pos rfl]
      generalize upd H5 b42 [.int .i64 t] = H6 at *
      intro b44 hb44
      have le7 : Le H6 (upd H6 b44 [.slice none 0 0]) := .upd hb44
      have r44 : rd (upd H6 b44 [.slice none 0 0]) b44 0 = some (.slice none 0 0) := by rw [rd_upd_self]; rfl
      refine st r44 ?_
      have le7' : Le H6 (wr (upd H6 b44 [.slice none 0 0]) b44 0 (.slice (some ⟨b42, 0, none⟩) 1 1)) := le7.wr hb44
      have r44' := rd_wr_self (v := .slice (some ⟨b42, 0, none⟩) 1 1) r44
      generalize wr (upd H6 b44 [.slice none 0 0]) b44 0 (.slice (some ⟨b42, 0, none⟩) 1 1) = H7 at *
      have le57 : Le H5 H7 := le6.trans le7'
      have leX7 : Le Hx H7 := le5'.trans le57
      refine ldP_i (leX7.rd rx2) ?_
      refine ldI_i (le57.rd r25') ?_
      have leH7 : Le H H7 := leHx.trans leX7
      have ⟨B, rs, qs, hO, v0⟩ := hu
      have v7 : RL H7 c B rs qs n M := v0.mod (O := []) leH7.mod (by simp) (by simp)
      refine rel_Rel_Behind.c v7 htn fun cap H8 hcap hrc le8 => ?_
      show bits_Row_Each_1.I cap H8 _ _
      have leX8 : Le Hx H8 := leX7.trans le8
      have leH8 : Le H H8 := leH7.trans le8
      have c42' : H8 b42 = some [.int .i64 t] := le8 _ _ (le7' _ _ c42)
      have r44'' := le8.rd r44'
      have f44 : Hx b44 = none := none_of_le (le5'.trans le6) hb44
      have f42 : Hx b42 = none := none_of_le le5' hb42
      have n1044 : b10 ≠ b44 := ne_of_none tx f44
      have n1042 : b10 ≠ b42 := ne_of_none tx f42
      have n4442 : b44 ≠ b42 := fun e => by subst e; rw [c42] at hb44; cases hb44
      have old : ∀ x, H x ≠ none → x ∉ [b10, b44, b42] := fun x hx hm => by
        simp only [List.mem_cons, List.not_mem_nil, or_false] at hm
        rcases hm with rfl | rfl | rfl
        · exact hx fr10
        · exact hx (none_of_le leHx f44)
        · exact hx (none_of_le leHx f42)
      have v8 := v7.mod (O := []) le8.mod (by simp) (by simp)
      have br := v8.br htn
      have n25 : b25 ∉ [b10, b44, b42] := fun hm => by
        simp only [List.mem_cons, List.not_mem_nil, or_false] at hm
        rcases hm with rfl | rfl | rfl
        · exact tx hb25
        · have := none_of_le le6 hb44; exact ne_none_of_rd r25' this
        · exact ne_none_of_rd r25' hb42
      have n12' : b12 ∉ [b10, b44, b42] := fun hm => by
        simp only [List.mem_cons, List.not_mem_nil, or_false] at hm
        have := ne_none_of_rd rx12
        rcases hm with rfl | rfl | rfl
        · exact n12 rfl
        · exact this f44
        · exact this f42
      have n2' : b2 ∉ [b10, b44, b42] := fun hm => by
        simp only [List.mem_cons, List.not_mem_nil, or_false] at hm
        have := ne_none_of_rd rx2
        rcases hm with rfl | rfl | rfl
        · exact n2 rfl
        · exact this f44
        · exact this f42
      have bufNo : ∀ {p : Option Addr} {l cc : Nat} {cells : List Value} {Hy : Hp}, Buf 1 (but H8 (some ⟨b42, 0, none⟩)) Hy p l cc cells → ∀ x ∈ blkL p, x = b42 ∨ H8 x = none := fun hB x hx => by
        rcases but_none (hB.fr x 0 (blkL_mem hB.zero hx)) with ⟨a, e, h1⟩ | h1
        · simp only [Option.some.injEq] at e; subst e; exact .inl h1.symm
        · exact .inr h1
      refine each_rule (fun i Hy => Mod [b10, b44, b42] H8 Hy ∧ Hy b10 ≠ none ∧ ∃ p l cc, rd Hy b44 0 = some (.slice p l cc) ∧ Buf 1 (but H8 (some ⟨b42, 0, none⟩)) Hy p l cc ((t :: els (behM M t) i).map iv) ∧
        ∀ x, x < n → rd Hy b10 x = some (.bool (seenM M t x || (decide (x < i) && behM M t x)))) br hrc ⟨.refl, by rw [eq_of_le leX8 tx]; exact tx, _, _, _, r44'', ⟨rfl, .inr ⟨b42, [], rfl, ?_, by simpa [els, iv] using c42', rfl, Nat.le_refl _, rfl⟩⟩, fun x hx => by rw [leX8.rd (hs x hx)]; simp⟩ ?_ ?_ ?_ ?_
      · simp [but]
      · rintro i Hy ⟨m1, _⟩
        refine ⟨v8.tz.mod m1 (old _ (hu.tz.there)), fun j _ _ => ?_⟩
        have hq : qs[t]'(by rw [v8.lq]; exact htn) ∈ O := by rw [hO]; exact v0.mem htn
        rw [rd_eq (eq_of_mod m1 (old _ (hu.there _ hq)) br.hq)]
      · rintro i Hy hs' ⟨m1, ty, p, l, cc, g1, g2, g3⟩
        have hb : behM M t i = false := by unfold behM; rw [hs']; simp
        refine ⟨m1, ty, p, l, cc, g1, by rw [els_off hb]; exact g2, fun x hx => ?_⟩
        rw [g3 x hx]
        by_cases e : x = i
        · subst e; rw [hb]; simp
        · rw [decide_eq_decide.2 (show x < i ↔ x < i + 1 by omega)]
      · rintro i Hy Kb hi hs' ⟨m1, ty, p, l, cc, g1, g2, g3⟩ hon _
        have y25 := m1.rd n25 ((le57.trans le8).rd r25')
        have skip : behM M t i = false → Kb Al.on Hy := fun hb => hon _ ⟨m1, ty, p, l, cc, g1, by rw [els_off hb]; exact g2, fun x hx => by
          rw [g3 x hx]
          by_cases e : x = i
          · subst e; rw [hb]; simp
          · rw [decide_eq_decide.2 (show x < i ↔ x < i + 1 by omega)]⟩
        refine ldI_i y25 (bcd (fun hlt => ?_) (fun hge => bcF (skip ?_)))
        · refine ldP_i (m1.rd n2' (leX8.rd rx2)) (ldI_i y25 ?_)
          refine rel_Rel_Has.c ((hu.le leH8).mod m1 (fun x hx hxO => old _ (hu.there _ hxO) hx) (old _ hu.tz.there)) ?_
          rw [hasM_nat]
          cases hb : M i t with
          | false => exact bcF (skip (by unfold behM; rw [hb]; simp))
          | true =>
            have hbeh : behM M t i = true := by
              have : t < i := by omega
              unfold behM; rw [hb, hs']; simp [this]
            have hll : l ≤ n + 1 := by
              have := g2.1
              have h2 := els_len_le (behM M t) i
              simp at this; omega
            refine bcT (ldL_i g1 ?_)
            have hsub : Was (but H8 (some ⟨b42, 0, none⟩)) Hy := fun x e => by
              by_cases hx : x = b42
              · subst hx; simp [but]
              · have h8 : H8 x = none := by
                  cases h8 : H8 x with
                  | none => rfl
                  | some d =>
                    have hx' : x ∉ [b10, b44, b42] := fun hm => by
                      simp only [List.mem_cons, List.not_mem_nil, or_false] at hm
                      rcases hm with rfl | rfl | rfl
                      · exact ty e
                      · exact ne_none_of_rd g1 e
                      · exact hx rfl
                    rw [m1 x hx' d h8] at e; cases e
                exact none_of_le but_le h8
            have hno : ∀ {x : Nat}, H8 x ≠ none → x ≠ b42 → x ∉ blkL p := fun h1 h2 hx => by
              rcases bufNo g2 _ hx with e | e
              · exact h2 e
              · exact h1 e
            have t44 := ne_none_of_rd r44''
            have t10'' : H8 b10 ≠ none := by rw [eq_of_le leX8 tx]; exact tx
            have hb12 := leX8.rd rx12
            refine g2.pushS rfl (by decide) rfl (by decide) rfl rfl (by simp [te_int]; omega) (fun p' c' H9 hB9 hp' m9 => ?_) hsub
            have r9 := m9.rd (hno t44 n4442) g1
            refine st r9 ?_
            have n12b : b12 ≠ b44 := fun e => n12' (by simp [e])
            refine ldL_i (p := some ⟨b10, 0, none⟩) (l := n) (c := n) (by rw [rd_wr_ne n12b]; exact m9.rd (hno (ne_none_of_rd hb12) fun e => n12' (by simp [e])) (m1.rd n12' hb12)) ?_
            refine idxN i rfl hi (nil ?_)
            have s9 : ∀ x, x < n → rd (wr H9 b44 0 (.slice p' (l + 1) c')) b10 x = some (.bool (seenM M t x || (decide (x < i) && behM M t x))) := fun x hx => by
              rw [rd_wr_ne n1044]; exact m9.rd (hno t10'' n1042) (g3 x hx)
            refine st0 (s9 i hi) (hon _ ⟨((m1.via m9 fun x hx => ?_).wr (.inl (by simp))).wr (.inl (by simp)), ne_none_of_rd (rd_wr_self (s9 i hi)), p', l + 1, c', ?_, ?_, fun x hx => ?_⟩)
            · rcases bufNo g2 x hx with e | e
              · exact .inl (by simp [e])
              · exact .inr e
            · rw [rd_wr_ne n1044.symm]; exact rd_wr_self r9
            · rw [els_on hbeh]
              have hmm : Mod [b10, b44] H9 (wr (wr H9 b44 0 (.slice p' (l + 1) c')) b10 i (.bool true)) := (Mod.refl.wr (.inl (by simp))).wr (.inl (by simp))
              have := hB9.mod hmm fun x o e hx => by
                have hx' : x = b10 ∨ x = b44 := by simpa using hx
                have hx8 : H8 x ≠ none ∧ x ≠ b42 ∧ Hy x ≠ none := by
                  rcases hx' with rfl | rfl
                  · exact ⟨t10'', n1042, ty⟩
                  · exact ⟨t44, n4442, ne_none_of_rd g1⟩
                rcases hp' with rfl | hp'
                · exact hno hx8.1 hx8.2.1 (blkL_some e)
                · exact hx8.2.2 (hp' x o e)
              simpa [iv] using this
            · by_cases e : x = i
              · subst e; rw [rd_wr_self (s9 x hi)]; simp [hbeh]
              · rw [rd_wr_off e, s9 x hx, decide_eq_decide.2 (show x < i ↔ x < i + 1 by omega)]
        · unfold behM
          have : ¬ t < i := by omega
          simp [this]
      · rintro i Hy hi ⟨m1, ty, p, l, cc, g1, g2, g3⟩
        have e1 : els (behM M t) i = els (behM M t) n := els_end (fun j hj => by unfold behM; rw [hu.sup t j (.inr hj)]; simp) hi
        rw [e1, ← clsM_prog htn] at g2
        refine alOn (ldL_i g1 ?_)
        have mX : Mod [b10] Hx Hy := (m1.after leX8).drop fun x hx => by
          simp only [List.mem_cons, List.not_mem_nil, or_false] at hx
          rcases hx with rfl | rfl | rfl
          · exact .inl (by simp)
          · exact .inr f44
          · exact .inr f42
        have m3 : Mod [b10] H3 Hy := mx.trans mX
        have sub3 : Was H3 Hy := m3.was fun x hx => by simp at hx; subst hx; exact ty
        have sub3x : Was H3 Hx := mx.was fun x hx => by simp at hx; subst hx; exact tx
        have hRy := hR.mod mX fun x hx => by simp at hx; subst hx; exact t10'
        have hl := hR.len
        have hcl := crcT_len (M := M) (n := n) (t := t)
        have hnp : ∀ x ∈ blkL p, Hx x = none := fun x hx => by
          rcases bufNo g2 x hx with rfl | e
          · exact f42
          · exact none_of_le leX8 e
        refine hRy.push sub3 g2.sl (fun x o e => sub3x x (hnp x (blkL_some e))) (fun x hx => g2.there (blkL_mem g2.zero hx)) g2.pt (fun x o o' e e' => ?_) rfl rfl (by decide) (by simp [te_sl_int]; omega) rfl (fun p' c' H' hR' hp' m' => ?_)
        · obtain ⟨hs', _, hB, _⟩ := hR
          exact hB.there e (hnp x (blkL_some e'))
        · have fro : ∀ x ∈ blkL outp, H3 x = none := fun x hx => by
            obtain ⟨hs', _, hB, _⟩ := hR
            exact hB.fr x 0 (blkL_mem hB.zero hx)
          have n10 : b10 ∉ blkL outp := fun hx => t10' (fro _ hx)
          refine chk (by omega) ⟨⟨t + 1, by omega, by omega, m3.via m' fun x hx => .inr (fro x hx), by rw [eq_of_mod m' n10 ty]; exact ty, fun x hx => ?_, ?_⟩, by first | omega | (dsimp only; omega)⟩
          · rw [m'.rd n10 (g3 x hx), seenM_succ, hf, Bool.true_and]
            have : x < i := by omega
            simp [this, behM]
          · rw [crcT_on hf]; exact hR'
  · obtain rfl : t = n := by omega
    have leHx : Le H Hx := mx.le leH3 (none1 fr10)
    exact hK _ _ _ _ (hR.base leH3) leHx

/-- A relation, or none. -/
def RN (H : Hp) (r : Option Addr) (n : Nat) (M : Nat → Nat → Bool) : Prop := (r = none ∧ n = 0 ∧ M = (fun _ _ => false) ∧ Tz H) ∨ ∃ R O, r = some ⟨R, 0, none⟩ ∧ RLO H R O n M
theorem RLO.rn {H : Hp} {R n : Nat} {M : Nat → Nat → Bool} {O : List Nat} (h : RLO H R O n M) : RN H (some ⟨R, 0, none⟩) n M := .inr ⟨R, O, rfl, h⟩
theorem RN.le {H H' : Hp} {r : Option Addr} {n : Nat} {M : Nat → Nat → Bool} (h : RN H r n M) (hl : Le H H') : RN H' r n M := by
  rcases h with ⟨h1, h2, h3, h4⟩ | ⟨R, O, h1, h2⟩
  · exact .inl ⟨h1, h2, h3, h4.le hl⟩
  · exact .inr ⟨R, O, h1, h2.le hl⟩
theorem RN.sup {H : Hp} {r : Option Addr} {n : Nat} {M : Nat → Nat → Bool} (h : RN H r n M) : Sup M n := by
  rcases h with ⟨_, _, h3, _⟩ | ⟨R, O, _, h2⟩
  · subst h3; exact fun _ _ _ => rfl
  · exact h2.sup
theorem order_closed.c {r : Option Addr} {n : Nat} {M : Nat → Nat → Bool} {H : Hp} {K : Option Addr → Hp → Prop} (hu : RN H r n M)
    (hK : ∀ R' O' H', RLO H' R' O' n (clo M n) → Tr (clo M n) → (∀ b ∈ O', H b = none) → Le H H' → K (some ⟨R', 0, none⟩) H') : order_closed.C r H K := by
  apply order_closed.of
  have ht := clo_tr hu.sup
  rcases hu with ⟨rfl, rfl, rfl, hT⟩ | ⟨R, O, rfl, hu⟩
  · refine bcd (fun _ => ?_) fun h => absurd rfl h
    refine rel_New.c hT fun R O H' u hO le => ?_
    rw [show (min (max (0 : Int) 0) 200).toNat = 0 by decide] at u
    exact hK R O H' u ht hO le
  · refine bcd (fun h => by cases h) fun _ => ?_
    exact rel_Rel_Closure.c hu fun R' O' H' u hO le => hK R' O' H' u ht hO le
end Go.Proofs.YtganockeifkecaaDoor
namespace Go.Proofs.YtganockeifkecaaDoor
open Go.V
theorem centoref2_Rel_one.c {m n : Nat} {M : Nat → Nat → Bool} {O : List Nat} {i j : Int} {a b : Nat} {H : Hp} {K : Bool → Hp → Prop} (hu : RFO H m O n M) (hi : i = (a : Int)) (ha : a < n) (hj : j = (b : Int)) (hb : b < n) (hK : K (oneM M a b) H) :
    centoref2_Rel_one.C (some ⟨m, 0, none⟩) i j H K := by
  apply centoref2_Rel_one.of
  refine bcd (fun h => ?_) fun h => ?_
  · have e : oneM M a b = true := oneM_iff.2 (.inl (by omega))
    rwa [e] at hK
  · have hne : ¬ a = b := by omega
    refine hu.get hi ha hj hb (bc_i (fun h1 => hu.get hj hb hi ha ?_) (fun h1 => ?_))
    · have e : oneM M a b = M b a := by unfold oneM; simp [hne, h1]
      rwa [e] at hK
    · have e : oneM M a b = false := by unfold oneM; simp [hne, h1]
      rwa [e] at hK

theorem centoref2_Rel_Circles.c {m n : Nat} {M : Nat → Nat → Bool} {O : List Nat} {H : Hp} {K : Option Addr → Nat → Nat → Hp → Prop} (hu : RFO H m O n M)
    (hK : ∀ p l cc H', Rw H H' p l cc (crc M n) → Le H H' → K p l cc H') : centoref2_Rel_Circles.C (some ⟨m, 0, none⟩) H K := by
  apply centoref2_Rel_Circles.of
  have hlim := hu.lim
  refine ⟨fun lp ll lc a Hx => ∃ a' : Nat, a = a' ∧ a' ≤ n ∧ Le H Hx ∧ Rw H Hx lp ll lc (crcT M n a'), fun _ _ _ a _ => (n - a).toNat, ⟨0, rfl, by omega, .refl _, Rw.none⟩, ?_⟩
  rintro lp ll lc a Hx ⟨a, rfl, ha, le1, hR⟩
  have hux := hu.le le1
  refine hux.len ?_
  refine bcd (fun h => ?_) (fun h => ?_)
  · have han : a < n := by omega
    refine ⟨fun f b Hy => ∃ b' : Nat, b = b' ∧ b' ≤ a ∧ Hx = Hy ∧ f = (List.range b').all (fun b => !oneM M a b), fun _ b _ => (a - b).toNat, ⟨0, rfl, by omega, rfl, rfl⟩, ?_⟩
    rintro f b _ ⟨b, rfl, hb, rfl, hf⟩
    have all_succ : (List.range (b + 1)).all (fun b => !oneM M a b) = (f && !oneM M a b) := by rw [List.range_succ, List.all_append, hf]; simp
    refine bcd (fun h => ?_) (fun h => ?_)
    · have hba : b < a := by omega
      refine bc_i (fun h1 => ?_) (fun h1 => ?_)
      · refine centoref2_Rel_one.c hux rfl han rfl (by omega) ?_
        exact chk (by omega) ⟨⟨b + 1, by omega, by omega, rfl, by rw [all_succ, h1]; simp⟩, by first | omega | (dsimp only; omega)⟩
      · exact chk (by omega) ⟨⟨b + 1, by omega, by omega, rfl, by rw [all_succ, h1]; simp⟩, by first | omega | (dsimp only; omega)⟩
    · obtain rfl : b = a := by omega
      have e : f = fstM M b := hf
      rw [e]
      refine bcn (fun h1 => ?_) (fun h1 => ?_)
      · exact chk (by omega) ⟨⟨b + 1, by omega, by omega, le1, by rw [crcT_off h1]; exact hR⟩, by first | omega | (dsimp only; omega)⟩
      · refine ⟨fun cp cl cc i Hy => ∃ i' : Nat, i = i' ∧ b ≤ i' ∧ i' ≤ n ∧ Le Hx Hy ∧ Buf 1 Hx Hy cp cl cc ((els (fun x => decide (b ≤ x) && oneM M b x) i').map iv), fun _ _ _ i _ => (n - i).toNat, ⟨b, rfl, by omega, by omega, .refl _, ?_⟩, ?_⟩
        · have : els (fun x => decide (b ≤ x) && oneM M b x) b = [] := by
            unfold els; rw [List.filter_eq_nil_iff]; intro x hx; simp at hx ⊢; intro; omega
          rw [this]; exact Buf.none
        · rintro cp cl cc i Hy ⟨i, rfl, hbi, hin, le2, hB⟩
          have huy := hux.le le2
          have hcl := hB.1
          have hel := els_len_le (fun x => decide (b ≤ x) && oneM M b x) i
          simp only [List.length_map, Nat.mul_one] at hcl
          refine huy.len ?_
          refine bcd (fun h => ?_) (fun h => ?_)
          · have hi : i < n := by omega
            refine centoref2_Rel_one.c huy rfl han rfl hi ?_
            refine bc_i (fun h2 => ?_) (fun h2 => ?_)
            · refine hB.pushM rfl (by decide) rfl (by decide) rfl rfl (by simp [te_int]; omega) (fun p' c' H' hB' _ hm => ?_) le2
              refine chk (by omega) ⟨⟨i + 1, by omega, by omega, by omega, hm.le le2 fun x hx => hB.fr x 0 (blkL_mem hB.zero hx), ?_⟩, by first | omega | (dsimp only; omega)⟩
              rw [els_on (by simp [hbi, h2])]; simpa [iv] using hB'
            · exact chk (by omega) ⟨⟨i + 1, by omega, by omega, by omega, le2, by rw [els_off (by simp [h2])]; exact hB⟩, by first | omega | (dsimp only; omega)⟩
          · obtain rfl : i = n := by omega
            have hl := hR.len
            have hcl' := crcT_len (M := M) (n := i) (t := b)
            refine (hR.le le2).push (le1.trans le2).was hB.sl (fun x o e => none_of_le le1 (hB.fr x o e)) (fun x hx => hB.there (blkL_mem hB.zero hx)) hB.pt (fun x o o' e e' => ?_) rfl rfl (by decide) (by simp [te_sl_int]; omega) rfl (fun p' c' H' hR' hp' m' => ?_)
            · obtain ⟨hs', _, hB', _⟩ := hR
              exact hB'.there e (hB.fr x o' e')
            · refine chk (by omega) ⟨⟨b + 1, by omega, by omega, m'.le (le1.trans le2) fun x hx => ?_, by rw [crcT_on h1]; exact hR'⟩, by first | omega | (dsimp only; omega)⟩
              obtain ⟨hs', _, hB', _⟩ := hR
              exact hB'.fr x 0 (blkL_mem hB'.zero hx)
  · obtain rfl : a = n := by omega
    exact hK _ _ _ _ hR le1

/-- The first of x's class, the class's place. -/
def hdOf (M : Nat → Nat → Bool) (x : Nat) : Nat := ((List.range (x + 1)).find? fun a => fstM M a && oneM M a x).getD 0
theorem hdOf_spec {M : Nat → Nat → Bool} (hT : Tr M) (x : Nat) : hdOf M x ≤ x ∧ fstM M (hdOf M x) = true ∧ oneM M (hdOf M x) x = true := by
  obtain ⟨a, h1, h2, h3⟩ := first_of hT x
  have : ∃ y, (List.range (x + 1)).find? (fun a => fstM M a && oneM M a x) = some y := by
    cases e : (List.range (x + 1)).find? (fun a => fstM M a && oneM M a x) with
    | some y => exact ⟨y, rfl⟩
    | none =>
      have := List.find?_eq_none.1 e a (by simp; omega)
      simp [h2, h3] at this
  obtain ⟨y, hy⟩ := this
  have h4 := List.find?_some hy
  have h5 := List.mem_of_find?_eq_some hy
  unfold hdOf
  rw [hy]
  simp at h4 h5
  exact ⟨by simpa using (by omega : y ≤ x), h4.1, h4.2⟩
theorem hdOf_eq {M : Nat → Nat → Bool} (hT : Tr M) {a x : Nat} (h : fstM M a = true) (h' : oneM M a x = true) : hdOf M x = a := by
  obtain ⟨_, h2, h3⟩ := hdOf_spec hT x
  exact first_uniq hT h2 h h3 h'
theorem hdOf_one {M : Nat → Nat → Bool} (hT : Tr M) {x y : Nat} : hdOf M x = hdOf M y ↔ oneM M x y = true := by
  obtain ⟨_, h2, h3⟩ := hdOf_spec hT x
  obtain ⟨_, h2', h3'⟩ := hdOf_spec hT y
  constructor
  · intro e
    rw [e, oneM_symm] at h3
    exact oneM_trans hT h3 h3'
  · intro h
    exact first_uniq hT h2 h2' (oneM_trans hT h3 h) h3'
def cidx (M : Nat → Nat → Bool) (n x : Nat) : Nat := (hdsM M n).idxOf (hdOf M x)
theorem hdOf_mem {M : Nat → Nat → Bool} (hT : Tr M) {n x : Nat} (hx : x < n) : hdOf M x ∈ hdsM M n := by
  obtain ⟨h1, h2, _⟩ := hdOf_spec hT x
  exact hds_mem.2 ⟨by omega, h2⟩
theorem cidx_lt {M : Nat → Nat → Bool} (hT : Tr M) {n x : Nat} (hx : x < n) : cidx M n x < (hdsM M n).length := List.idxOf_lt_length_of_mem (hdOf_mem hT hx)
theorem cidx_get {M : Nat → Nat → Bool} (hT : Tr M) {n x : Nat} (hx : x < n) : (hdsM M n)[cidx M n x]'(cidx_lt hT hx) = hdOf M x := List.getElem_idxOf (cidx_lt hT hx)
theorem cidx_iff {M : Nat → Nat → Bool} (hT : Tr M) {n x t : Nat} (hx : x < n) (ht : t < (hdsM M n).length) : cidx M n x = t ↔ hdOf M x = (hdsM M n)[t] := by
  constructor
  · intro e; subst e; exact (cidx_get hT hx).symm
  · intro e
    exact nodup_inj hds_nodup (cidx_lt hT hx) ht (by rw [cidx_get hT hx, e])
theorem crc_len {M : Nat → Nat → Bool} {n : Nat} : (crc M n).length = (hdsM M n).length := by unfold crc; simp
theorem crc_get {M : Nat → Nat → Bool} {n t : Nat} (ht : t < (crc M n).length) : (crc M n)[t] = clsM M n ((hdsM M n)[t]'(by rw [← crc_len]; exact ht)) := List.getElem_map (clsM M n)
theorem crc_mem {M : Nat → Nat → Bool} (hT : Tr M) {n t x : Nat} (ht : t < (crc M n).length) : x ∈ (crc M n)[t] ↔ x < n ∧ cidx M n x = t := by
  have ht' : t < (hdsM M n).length := by rw [← crc_len]; exact ht
  have hm := hds_mem.1 (List.getElem_mem ht')
  rw [crc_get, clsM_mem]
  constructor
  · rintro ⟨h1, h2, h3⟩
    exact ⟨h1, (cidx_iff hT h1 ht').2 (hdOf_eq hT hm.2 h3)⟩
  · rintro ⟨h1, h2⟩
    have h3 := (cidx_iff hT h1 ht').1 h2
    obtain ⟨g1, g2, g3⟩ := hdOf_spec hT x
    rw [h3] at g1 g3
    exact ⟨h1, g1, g3⟩
theorem hds_len {M : Nat → Nat → Bool} {n : Nat} : (hdsM M n).length ≤ n := els_len_le _ _
/-- Places filled as far as row t, its k-th. -/
def filC (M : Nat → Nat → Bool) (n t k x : Nat) : Nat := if cidx M n x < t ∨ (cidx M n x = t ∧ x ∈ ((crc M n).getD t []).take k) then cidx M n x else 0
theorem filC_next {M : Nat → Nat → Bool} (hT : Tr M) {n t k x : Nat} (hx : x < n) (ht : t < (crc M n).length) (hk : (crc M n)[t].length ≤ k) : filC M n t k x = filC M n (t + 1) 0 x := by
  unfold filC
  have e : (crc M n).getD t [] = (crc M n)[t] := by simp [List.getD, ht]
  have hm : x ∈ ((crc M n).getD t []).take k ↔ cidx M n x = t := by
    rw [e, List.take_of_length_le hk, crc_mem hT]; exact ⟨fun g => g.2, fun g => ⟨hx, g⟩⟩
  by_cases h : cidx M n x < t
  · rw [if_pos (.inl h), if_pos (.inl (by omega))]
  · by_cases h' : cidx M n x = t
    · rw [if_pos (.inr ⟨h', hm.2 h'⟩), if_pos (.inl (by omega))]
    · rw [if_neg (by rintro (g | g); exact h g; exact h' g.1), if_neg (by rintro (g | g); omega; simp at g)]
theorem filC_step {M : Nat → Nat → Bool} (hT : Tr M) {n t k x : Nat} (ht : t < (crc M n).length) (hk : k < (crc M n)[t].length) : filC M n t (k + 1) x = if x = (crc M n)[t][k] then t else filC M n t k x := by
  have e : (crc M n).getD t [] = (crc M n)[t] := by simp [List.getD, ht]
  have hm := (crc_mem hT ht).1 (List.getElem_mem hk)
  unfold filC
  have hm2 : x ∈ ((crc M n).getD t []).take (k + 1) ↔ x ∈ ((crc M n).getD t []).take k ∨ x = (crc M n)[t][k] := by
    rw [e, List.take_succ_eq_append_getElem hk, List.mem_append, List.mem_singleton]
  by_cases h : x = (crc M n)[t][k]
  · rw [if_pos (.inr ⟨by rw [h]; exact hm.2, hm2.2 (.inr h)⟩), if_pos h, h, hm.2]
  · rw [if_neg h]
    have hm3 : x ∈ ((crc M n).getD t []).take (k + 1) ↔ x ∈ ((crc M n).getD t []).take k := by rw [hm2]; simp [h]
    simp only [hm3]
theorem filC_end {M : Nat → Nat → Bool} (hT : Tr M) {n x : Nat} (hx : x < n) : filC M n (crc M n).length 0 x = cidx M n x := by
  unfold filC
  rw [if_pos (.inl (by rw [crc_len]; exact cidx_lt hT hx))]
def clss (M : Nat → Nat → Bool) (n : Nat) : List Nat := (List.range n).map (cidx M n)
def PFn (H : Hp) (b n : Nat) (g : Nat → Nat) : Prop := ∀ x, x < n → rd H b x = some (iv (g x))
theorem PFn.sl {H : Hp} {b n c : Nat} {g : Nat → Nat} (h : PFn H b n g) (hc : n ≤ c) : Sl iv H (some ⟨b, 0, none⟩) n c ((List.range n).map g) :=
  ⟨by simp, hc, .inr ⟨b, 0, rfl, fun i hi => by
    simp at hi
    rw [Nat.zero_add, h i hi]; simp⟩⟩
theorem PFn.put {H : Hp} {b n : Nat} {g g' : Nat → Nat} (h : PFn H b n g) {x v : Nat} (hx : x < n) (hg : ∀ y, y < n → g' y = if y = x then v else g y) : PFn (wr H b x (iv v)) b n g' := fun y hy => by
  rw [hg y hy]
  by_cases e : y = x
  · subst e; rw [if_pos rfl, rd_wr_self (h y hy)]
  · rw [if_neg e, rd_wr_off e, h y hy]

end Go.Proofs.YtganockeifkecaaDoor
namespace Go.Proofs.YtganockeifkecaaDoor
open Go.V
/-! ### The row -/
def freeL (M : Nat → Nat → Bool) (rem : List Nat) (h : Nat) : Bool := rem.all fun g => decide (g = h) || !M g h
def srtS (M : Nat → Nat → Bool) (n : Nat) : Nat → List Nat → List Nat
  | 0, _ => []
  | k + 1, rem => match rem.find? (freeL M rem) with
    | none => []
    | some h => clsM M n h ++ srtS M n k (rem.erase h)
def srt (M : Nat → Nat → Bool) (n : Nat) : List Nat := srtS M n (hdsM M n).length (hdsM M n)
theorem srtS_some {M : Nat → Nat → Bool} {n h : Nat} {rem : List Nat} (e : rem.find? (freeL M rem) = some h) : srtS M n rem.length rem = clsM M n h ++ srtS M n (rem.erase h).length (rem.erase h) := by
  have hm := List.mem_of_find?_eq_some e
  have hl := List.length_erase_of_mem hm
  have hp : 0 < rem.length := List.length_pos_of_mem hm
  obtain ⟨k, hk⟩ : ∃ k, rem.length = k + 1 := ⟨rem.length - 1, by omega⟩
  rw [hk, srtS, e, hl, hk]; rfl
theorem srtS_none {M : Nat → Nat → Bool} {n : Nat} {rem : List Nat} (e : rem.find? (freeL M rem) = none) : srtS M n rem.length rem = [] := by
  cases h : rem.length with
  | zero => rfl
  | succ k => rw [srtS, e]
theorem find_at {p : Nat → Bool} {l : List Nat} {i : Nat} (hi : i < l.length) (hp : p l[i] = true) (hn : ∀ j (h : j < i), p (l[j]'(by omega)) = false) : l.find? p = some l[i] := by
  rw [List.find?_eq_some_iff_getElem]
  exact ⟨hp, i, hi, rfl, fun j hj => by rw [hn j hj]; rfl⟩
theorem find_no {p : Nat → Bool} {l : List Nat} (hn : ∀ j (h : j < l.length), p l[j] = false) : l.find? p = none := by
  rw [List.find?_eq_none]
  intro x hx
  obtain ⟨j, hj, rfl⟩ := List.mem_iff_getElem.1 hx
  rw [hn j hj]; decide
theorem map_eraseIdx' {α β : Type} {f : α → β} : ∀ (l : List α) (i : Nat), (l.eraseIdx i).map f = (l.map f).eraseIdx i
  | [], _ => rfl
  | _ :: _, 0 => rfl
  | a :: l, i + 1 => by simp [List.eraseIdx, map_eraseIdx' l i]
theorem erase_get' : ∀ {l : List Nat} (_ : l.Nodup) {i : Nat} (hi : i < l.length), l.erase l[i] = l.eraseIdx i
  | a :: l, hd, 0, _ => by simp
  | a :: l, hd, i + 1, hi => by
    have hi' : i < l.length := by simpa using hi
    have hne : a ≠ l[i] := fun e => (List.nodup_cons.1 hd).1 (e ▸ List.getElem_mem _)
    simp only [List.getElem_cons_succ, List.eraseIdx_cons_succ]
    rw [List.erase_cons_tail (by simpa using hne), erase_get' (List.nodup_cons.1 hd).2 hi']
theorem cls_hd {M : Nat → Nat → Bool} {n a : Nat} (h : a < n) : (clsM M n a).getD 0 0 = a ∧ clsM M n a ≠ [] := by rw [clsM_prog h]; exact ⟨rfl, by simp⟩

theorem order_first.c {c n l cc i : Nat} {M : Nat → Nat → Bool} {O : List Nat} {A H : Hp} {p : Option Addr} {rem : List Nat} {K : Bool → Hp → Prop} (hu : RLO H c O n M) (hR : Rw A H p l cc (rem.map (clsM M n))) (hn : ∀ x ∈ rem, x < n) (hd : rem.Nodup)
    (hi : i < rem.length) (hrl : rem.length ≤ 1000) (hK : K (freeL M rem rem[i]) H) : order_first.C (some ⟨c, 0, none⟩) p l cc (i : Int) H K := by
  apply order_first.of
  have hl := hR.len
  rw [List.length_map] at hl
  refine ⟨fun k Hx => ∃ k' : Nat, k = k' ∧ k' ≤ l ∧ H = Hx ∧ (rem.take k').all (fun g => decide (g = rem[i]) || !M g rem[i]) = true, fun k _ => (l - k).toNat, ⟨0, rfl, by omega, rfl, rfl⟩, ?_⟩
  rintro k _ ⟨k, rfl, hk, rfl, hall⟩
  have hget : ∀ j (h : j < rem.length), (rem.map (clsM M n))[j]'(by simpa using h) = clsM M n rem[j] := fun j h => by simp
  refine bcd (fun h => ?_) (fun h => ?_)
  · have hkr : k < rem.length := by omega
    have e1 := cls_hd (M := M) (hn _ (List.getElem_mem hkr))
    have e2 := cls_hd (M := M) (hn _ (List.getElem_mem hi))
    have next : (decide (rem[k] = rem[i]) || !M rem[k] rem[i]) = true → (rem.take (k + 1)).all (fun g => decide (g = rem[i]) || !M g rem[i]) = true := fun h => by
      rw [List.take_succ_eq_append_getElem hkr, List.all_append, hall]; simpa using h
    refine hR.at rfl (by simpa using hkr) fun q l' c' hs _ _ => ?_
    have hl' := hs.len
    rw [hget k hkr] at hs hl'
    refine bcd (fun hne => ?_) (fun heq => ?_)
    · have hpos : 0 < (clsM M n rem[k]).length := List.length_pos_iff.2 e1.2
      refine slI hs (g := fun (x : Nat) => (x : Int)) (fun _ => rfl) (by omega) (by omega) fun _ => ?_
      have g1 : (clsM M n rem[k])[(0 : Int).toNat]'(by simpa using hpos) = rem[k] := by
        have e := e1.1
        simpa [List.getD, hpos] using e
      rw [g1]
      refine hR.hd rfl (by simpa using hi) (by rw [hget i hi]; exact e2.2) ?_
      rw [hget i hi, e2.1]
      refine rel_Rel_Has.c hu ?_
      rw [hasM_nat]
      refine bc_i (fun hm => ?_) (fun hm => ?_)
      · have : freeL M rem rem[i] = false := by
          unfold freeL
          rw [List.all_eq_false]
          refine ⟨rem[k], List.getElem_mem hkr, ?_⟩
          have hne' : ¬ rem[k] = rem[i] := fun e => by have := nodup_inj hd hkr hi e; omega
          simp [hne', hm]
        rwa [this] at hK
      · exact chk (by omega) ⟨⟨k + 1, by omega, by omega, rfl, next (by rw [hm]; simp)⟩, by first | omega | (dsimp only; omega)⟩
    · have : k = i := by omega
      subst this
      exact chk (by omega) ⟨⟨k + 1, by omega, by omega, rfl, next (by simp)⟩, by first | omega | (dsimp only; omega)⟩
  · have e : freeL M rem rem[i] = true := by
      rw [List.take_of_length_le (by omega)] at hall; exact hall
    rwa [e] at hK

theorem order_Sort.n {r : Option Addr} {n : Nat} {M : Nat → Nat → Bool} {H : Hp} {K : Option Addr → Nat → Nat → Hp → Prop} (hu : RN H r n M) (hn : n ≤ 200)
    (hK : ∀ p l cc H', Sl iv H' p l cc (srt (clo M n) n) → New H p → Le H H' → K p l cc H') : order_Sort.C r H K := by
  apply order_Sort.of
  refine order_closed.c hu fun R O H1 u hT hO le1 => ?_
  refine order_circles.c u hT fun p0 l0 c0 H2 hR le2 => ?_
  have hhl := hds_len (M := clo M n) (n := n)
  have u2 := u.le le2
  have fresh : ∀ x ∈ blkL p0, H x = none ∧ H1 x = none := fun x hx => by
    obtain ⟨hs, _, hB, _⟩ := hR
    have := hB.fr x 0 (blkL_mem hB.zero hx)
    exact ⟨none_of_le le1 this, this⟩
  have there0 : ∀ x ∈ blkL p0, H2 x ≠ none := fun x hx => by
    obtain ⟨hs, _, hB, _⟩ := hR
    exact hB.there (blkL_mem hB.zero hx)
  let P : Hd × Nat → Prop := fun z => Sl iv H2 z.1.1 z.1.2.1 z.1.2.2 (clsM (clo M n) n z.2) ∧ New H1 z.1.1 ∧ (∀ x ∈ blkL z.1.1, H2 x ≠ none) ∧ PtOk z.1.1 ∧ Apart p0 z.1.1 ∧ z.2 < n
  -- the state as rows
  have toRw : ∀ {Hx : Hp} {l c : Nat} {zs : List (Hd × Nat)}, Buf 1 H1 Hx p0 l c ((zs.map Prod.fst).map hv) → (∀ z ∈ zs, P z) → Mod (blkL p0) H2 Hx → Rw H1 Hx p0 l c ((zs.map Prod.snd).map (clsM (clo M n) n)) := by
    intro Hx l c zs hB hP hm
    refine ⟨zs.map Prod.fst, by simp, hB, fun k h h' => ?_⟩
    simp only [List.getElem_map]
    obtain ⟨g1, g2, g3, g4, g5, _⟩ := hP _ (List.getElem_mem (by simpa using h))
    have hno : ∀ x ∈ blkL (zs[k]'(by simpa using h)).1.1, x ∉ blkL p0 := fun x hx hb => by
      obtain ⟨hs, _, hB, _⟩ := hR
      have hpz := blkL_mem hB.zero hb
      rcases g4 with e | ⟨b', o, e⟩
      · rw [e] at hx; simp [blkL] at hx
      · rw [e] at hx; simp [blkL] at hx; subst hx; exact g5 _ _ _ hpz e
    exact ⟨g1.mod hm fun x o e => hno x (blkL_some e), g2, fun x hx => by rw [eq_of_mod hm (hno x hx) (g3 x hx)]; exact g3 x hx, g4, g5⟩
  have start : ∃ zs : List (Hd × Nat), Buf 1 H1 H2 p0 l0 c0 ((zs.map Prod.fst).map hv) ∧ (∀ z ∈ zs, P z) ∧ zs.map Prod.snd = hdsM (clo M n) n := by
    obtain ⟨hs, h1, h2, h3⟩ := hR
    rw [crc_len] at h1
    refine ⟨hs.zip (hdsM (clo M n) n), ?_, fun z hz => ?_, ?_⟩
    · rw [List.map_fst_zip (by omega)]; exact h2
    · obtain ⟨k, hk, rfl⟩ := List.mem_iff_getElem.1 hz
      have hk1 : k < hs.length := by simp at hk; omega
      have hk2 : k < (crc (clo M n) n).length := by rw [crc_len]; omega
      obtain ⟨g1, g2, g3, g4, g5⟩ := h3 k hk1 hk2
      simp only [List.getElem_zip]
      rw [crc_get] at g1
      exact ⟨g1, g2, g3, g4, g5, (hds_mem.1 (List.getElem_mem _)).1⟩
    · rw [List.map_snd_zip (by omega)]
  obtain ⟨zs0, hB0, hP0, hz0⟩ := start
  refine ⟨fun cp cl cc op ol oc Hx => ∃ (zs : List (Hd × Nat)) (out : List Nat), cp = p0 ∧ Buf 1 H1 Hx cp cl cc ((zs.map Prod.fst).map hv) ∧ (∀ z ∈ zs, P z) ∧ (zs.map Prod.snd).Nodup ∧ zs.length ≤ n ∧ Mod (blkL p0) H2 Hx ∧ Buf 1 H2 Hx op ol oc (out.map iv) ∧
    out ++ srtS (clo M n) n zs.length (zs.map Prod.snd) = srt (clo M n) n ∧ out.length + n * zs.length ≤ n * n, fun _ cl _ _ _ _ _ => cl,
    ⟨zs0, [], rfl, hB0, hP0, by rw [hz0]; exact hds_nodup, by have : zs0.length = (hdsM (clo M n) n).length := by rw [← hz0]; simp
                                                              omega, .refl, Buf.none, ?_, ?_⟩, ?_⟩
  · have : zs0.length = (hdsM (clo M n) n).length := by rw [← hz0]; simp
    rw [this, hz0]; rfl
  · have : zs0.length = (hdsM (clo M n) n).length := by rw [← hz0]; simp
    simp only [List.length_nil, Nat.zero_add]
    exact Nat.mul_le_mul_left n (by omega)
  rintro cp cl cc op ol oc Hx ⟨zs, out, rfl, hB, hP, hnd, hzl, mx, hO', hsrt, hlen⟩
  have hcl : cl = zs.length := by have := hB.1; simpa using this
  have hol : ol = out.length := by have := hO'.1; simpa using this
  have h40 : n * n ≤ 40000 := Nat.mul_le_mul hn hn
  refine bcd (fun h => ?_) (fun h => ?_)
  · refine ⟨fun cp' cl' cc' op' ol' oc' i Hy => ∃ i' : Nat, i = i' ∧ i' ≤ cl ∧ cp = cp' ∧ cl = cl' ∧ cc = cc' ∧ op = op' ∧ ol = ol' ∧ oc = oc' ∧ Hx = Hy ∧ ∀ j (h : j < i') (h' : j < (zs.map Prod.snd).length), freeL (clo M n) (zs.map Prod.snd) (zs.map Prod.snd)[j] = false, fun _ _ _ _ _ _ i _ => (cl - i).toNat,
      ⟨0, rfl, by omega, rfl, rfl, rfl, rfl, rfl, rfl, rfl, fun j h => absurd h (Nat.not_lt_zero _)⟩, ?_⟩
    rintro _ _ _ _ _ _ i _ ⟨i, rfl, hi, rfl, rfl, rfl, rfl, rfl, rfl, rfl, hno⟩
    have hRw := toRw hB hP mx
    refine bcd (fun h => ?_) (fun h => ?_)
    · have hiz : i < zs.length := by omega
      have him : i < (zs.map Prod.snd).length := by simpa using hiz
      have hux : RLO Hx R O n (clo M n) := u2.mod mx (fun x hx hxO => u.there _ hxO (fresh x hx).2) (fun hx => u.tz.there (fresh _ hx).2)
      refine hRw.at rfl (by simpa using hiz) fun q l' c' hs hpt _ => ?_
      have hs' : Sl iv Hx q l' c' (clsM (clo M n) n (zs.map Prod.snd)[i]) := by simpa using hs
      have hl' := hs'.len
      have hcn := clsM_len (M := clo M n) (n := n) (a := (zs.map Prod.snd)[i])
      refine order_first.c hux hRw (fun x hx => by obtain ⟨z, hz, rfl⟩ := List.mem_map.1 hx; exact (hP z hz).2.2.2.2.2) hnd him (by simp; omega) ?_
      refine bc_i (fun hf => ?_) (fun hf => ?_)
      · have hfind := find_at (p := freeL (clo M n) (zs.map Prod.snd)) him hf fun j hj => hno j hj (by omega)
        have hsome := srtS_some (n := n) hfind
        rw [List.length_map] at hsome
        have her : (zs.map Prod.snd).erase (zs.map Prod.snd)[i] = (zs.eraseIdx i).map Prod.snd := by
          rw [map_eraseIdx']
          exact erase_get' hnd him
        have hle1 : (zs.eraseIdx i).length = zs.length - 1 := List.length_eraseIdx_of_lt hiz
        have hmul : n + n * (zs.length - 1) = n * zs.length := by
          obtain ⟨k, hk⟩ : ∃ k, zs.length = k + 1 := ⟨zs.length - 1, by omega⟩
          rw [hk, Nat.add_sub_cancel, Nat.mul_add, Nat.mul_one, Nat.add_comm]
        refine hO'.appS (n := l') (new := (clsM (clo M n) n (zs.map Prod.snd)[i]).map iv) rfl (by decide) rfl (by decide) (by simp [hl']) (by rw [List.all_eq_true]; intro v hvv; obtain ⟨y, _, rfl⟩ := List.mem_map.1 hvv; rfl) (by simp [te_int]; omega)
          (fun G hG => sl_srcG hs' hpt G hG) (fun p' c' H' hO2 hp' hm => ?_) ?_
        · refine chk (by omega) ?_
          have hpo : ∀ x ∈ blkL op, H2 x = none := fun x hx => hO'.fr x 0 (blkL_mem hO'.zero hx)
          have hB2 := hB.mod hm fun x o e hx => there0 x (blkL_some e) (hpo x hx)
          refine slices_Delete_int_int.c hB2 (by simpa using hiz) rfl fun H3 hB3 m3 => ?_
          have hO3 := hO2.mod m3 fun x o e hx => there0 x hx (hO2.fr x o e)
          refine ⟨⟨zs.eraseIdx i, out ++ clsM (clo M n) n (zs.map Prod.snd)[i], rfl, by rw [map_eraseIdx']; exact hB3, fun z hz => hP z (List.mem_of_mem_eraseIdx hz), by rw [← her]; exact hnd.erase _, by omega,
            (mx.via hm fun x hx => .inr (hpo x hx)).trans m3, by rw [List.map_append]; exact hO3, ?_, ?_⟩, by first | omega | (dsimp only; omega)⟩
          · rw [List.append_assoc, ← her, ← hsrt, hsome, her, List.length_map]
          · rw [List.length_append]
            have : n * (zs.eraseIdx i).length = n * (zs.length - 1) := by rw [hle1]
            omega
        · exact mx.was fun x hx => hB.there (blkL_mem hB.zero hx)
      · exact chk (by omega) ⟨⟨i + 1, by omega, by omega, rfl, rfl, rfl, rfl, rfl, rfl, rfl, fun j hj hj' => by
          by_cases e : j = i
          · subst e; exact hf
          · exact hno j (by omega) hj'⟩, by first | omega | (dsimp only; omega)⟩
    · have hfind := find_no (p := freeL (clo M n) (zs.map Prod.snd)) (l := zs.map Prod.snd) fun j hj => hno j (by simp at hj; omega) hj
      have hnone := srtS_none (n := n) hfind
      rw [List.length_map] at hnone
      rw [hnone, List.append_nil] at hsrt
      rw [← hsrt] at hK
      exact hK _ _ _ _ hO'.sl (fun b o e => none_of_le (by first | exact le1 | exact (le1.trans le2)) (hO'.fr b o e)) (mx.le (le1.trans le2) fun x hx => (fresh x hx).1)
  · have h0 : zs = [] := List.length_eq_zero_iff.1 (by omega)
    subst h0
    have e : out = srt (clo M n) n := by simpa [srtS] using hsrt
    rw [← e] at hK
    exact hK _ _ _ _ hO'.sl (fun b o e => none_of_le (by first | exact le1 | exact (le1.trans le2)) (hO'.fr b o e)) (mx.le (le1.trans le2) fun x hx => (fresh x hx).1)
theorem order_Sort.c {r : Option Addr} {n : Nat} {M : Nat → Nat → Bool} {H : Hp} {K : Option Addr → Nat → Nat → Hp → Prop} (hu : RN H r n M) (hn : n ≤ 200)
    (hK : ∀ p l cc H', Sl iv H' p l cc (srt (clo M n) n) → Le H H' → K p l cc H') : order_Sort.C r H K := order_Sort.n hu hn fun p l cc H' h _ hle => hK p l cc H' h hle
end Go.Proofs.YtganockeifkecaaDoor
namespace Go.Proofs.YtganockeifkecaaDoor
open Go.V
theorem heads {A H : Hp} {p : Option Addr} {l c n : Nat} {M : Nat → Nat → Bool} {hs : List Nat} (hR : Rw A H p l c (hs.map (clsM M n))) {i : Int} {k : Nat} (hi : i = (k : Int)) (hk : k < hs.length) (hn : hs[k] < n) {F : Int → Prop} (hF : F ((hs[k] : Nat) : Int)) :
    IDX i l fun j => NIL p fun b o => ldL (rd H b (o + j)) fun xp xl _ => IDX (0 : Int) xl fun k2 => NIL xp fun b2 o2 => ldI .i64 (rd H b2 (o2 + k2)) F := by
  have e := cls_hd (M := M) hn
  have hget : (hs.map (clsM M n))[k]'(by simpa using hk) = clsM M n hs[k] := by simp
  refine hR.hd hi (by simpa using hk) (by rw [hget]; exact e.2) ?_
  rw [hget, e.1]; exact hF
section
variable {H A : Hp} {m B : Nat} {bs hs : List Nat} {n : Nat} {M N : Nat → Nat → Bool} {p : Option Addr} {l c : Nat}
/-- Is one class's first ahead of another one's? -/
theorem RF.look (h : RF H m B bs n M) (hR : Rw A H p l c (hs.map (clsM N n))) (hn : ∀ x ∈ hs, x < n) {i j : Int} {a b : Nat} (hi : i = (a : Int)) (ha : a < hs.length) (hj : j = (b : Int)) (hb : b < hs.length) {F : Bool → Prop} (hF : F (M hs[a] hs[b])) :
    NIL (some ⟨m, 0, none⟩) fun bq oq => ldL (rd H bq (oq + 1)) fun xp xl _ => IDX i l fun k => NIL p fun b1 o1 => ldL (rd H b1 (o1 + k)) fun xp2 xl2 _ => IDX (0 : Int) xl2 fun k2 => NIL xp2 fun b2 o2 => ldI .i64 (rd H b2 (o2 + k2)) fun x =>
      IDX x xl fun k3 => NIL xp fun b3 o3 => ldL (rd H b3 (o3 + k3)) fun xp4 xl4 _ => IDX j l fun k5 => NIL p fun b5 o5 => ldL (rd H b5 (o5 + k5)) fun xp6 xl6 _ => IDX (0 : Int) xl6 fun k6 => NIL xp6 fun b6 o6 => ldI .i64 (rd H b6 (o6 + k6)) fun y =>
        IDX y xl4 fun k7 => NIL xp4 fun b7 o7 => ldB (rd H b7 (o7 + k7)) F := by
  have h1 := hn _ (List.getElem_mem ha)
  have h2 := hn _ (List.getElem_mem hb)
  obtain ⟨q, c', g1, g2, g3⟩ := h.hm
  obtain rfl := g3.resolve_left (by omega)
  refine nil (ldL_i (by rw [Nat.zero_add]; exact g1) ?_)
  refine heads hR hi ha h1 ?_
  refine idxN _ rfl h1 (nil ?_)
  refine ldL_i (by rw [Nat.zero_add]; exact h.ptr _ (by rw [h.lb]; exact h1)) ?_
  refine heads hR hj hb h2 ?_
  refine idxN _ rfl h2 (nil ?_)
  exact ldB_i (by rw [Nat.zero_add]; exact h.row _ (by rw [h.lb]; exact h1) _ h2) hF
theorem RFO.look {O : List Nat} (h : RFO H m O n M) (hR : Rw A H p l c (hs.map (clsM N n))) (hn : ∀ x ∈ hs, x < n) {i j : Int} {a b : Nat} (hi : i = (a : Int)) (ha : a < hs.length) (hj : j = (b : Int)) (hb : b < hs.length) {F : Bool → Prop} (hF : F (M hs[a] hs[b])) :
    NIL (some ⟨m, 0, none⟩) fun bq oq => ldL (rd H bq (oq + 1)) fun xp xl _ => IDX i l fun k => NIL p fun b1 o1 => ldL (rd H b1 (o1 + k)) fun xp2 xl2 _ => IDX (0 : Int) xl2 fun k2 => NIL xp2 fun b2 o2 => ldI .i64 (rd H b2 (o2 + k2)) fun x =>
      IDX x xl fun k3 => NIL xp fun b3 o3 => ldL (rd H b3 (o3 + k3)) fun xp4 xl4 _ => IDX j l fun k5 => NIL p fun b5 o5 => ldL (rd H b5 (o5 + k5)) fun xp6 xl6 _ => IDX (0 : Int) xl6 fun k6 => NIL xp6 fun b6 o6 => ldI .i64 (rd H b6 (o6 + k6)) fun y =>
        IDX y xl4 fun k7 => NIL xp4 fun b7 o7 => ldB (rd H b7 (o7 + k7)) F := by
  obtain ⟨B, bs, rfl, h⟩ := h
  exact h.look hR hn hi ha hj hb hF
end

theorem centoref2_Rel_free.c {m n l cc i b dc : Nat} {M : Nat → Nat → Bool} {O : List Nat} {A H : Hp} {p : Option Addr} {hs : List Nat} {d : Nat → Bool} {K : Bool → Hp → Prop} (hu : RFO H m O n M) (hR : Rw A H p l cc (hs.map (clsM M n))) (hn : ∀ x ∈ hs, x < n) (hd : hs.Nodup)
    (hD : ∀ k (h : k < hs.length), rd H b k = some (.bool (!d hs[k]))) (hi : i < hs.length) (hrl : hs.length ≤ 1000) (hK : K (freeL M (hs.filter d) hs[i]) H) : centoref2_Rel_free.C (some ⟨m, 0, none⟩) p l cc (some ⟨b, 0, none⟩) l dc (i : Int) H K := by
  apply centoref2_Rel_free.of
  have hl := hR.len
  rw [List.length_map] at hl
  refine ⟨fun k Hx => ∃ k' : Nat, k = k' ∧ k' ≤ l ∧ H = Hx ∧ (hs.take k').all (fun g => !d g || (decide (g = hs[i]) || !M g hs[i])) = true, fun k _ => (l - k).toNat, ⟨0, rfl, by omega, rfl, rfl⟩, ?_⟩
  rintro k _ ⟨k, rfl, hk, rfl, hall⟩
  have efree : freeL M (hs.filter d) hs[i] = hs.all (fun g => !d g || (decide (g = hs[i]) || !M g hs[i])) := by
    unfold freeL; rw [List.all_filter]
  refine bcd (fun h => ?_) (fun h => ?_)
  · have hkr : k < hs.length := by omega
    have next : (!d hs[k] || (decide (hs[k] = hs[i]) || !M hs[k] hs[i])) = true → (hs.take (k + 1)).all (fun g => !d g || (decide (g = hs[i]) || !M g hs[i])) = true := fun h => by
      rw [List.take_succ_eq_append_getElem hkr, List.all_append, hall]; simpa using h
    refine bcd (fun hne => ?_) (fun heq => ?_)
    · refine idxN k rfl (by omega) (nil (ldB_i (by rw [Nat.zero_add]; exact hD k hkr) ?_))
      rw [Bool.not_not]
      refine bc_i (fun hdk => ?_) (fun hdk => ?_)
      · refine hu.look hR hn rfl hkr rfl hi ?_
        refine bc_i (fun hm => ?_) (fun hm => ?_)
        · have : freeL M (hs.filter d) hs[i] = false := by
            rw [efree, List.all_eq_false]
            refine ⟨hs[k], List.getElem_mem hkr, ?_⟩
            have hne' : ¬ hs[k] = hs[i] := fun e => by have := nodup_inj hd hkr hi e; omega
            simp [hne', hm, hdk]
          rwa [this] at hK
        · exact chk (by omega) ⟨⟨k + 1, by omega, by omega, rfl, next (by rw [hm]; simp)⟩, by first | omega | (dsimp only; omega)⟩
      · exact chk (by omega) ⟨⟨k + 1, by omega, by omega, rfl, next (by rw [hdk]; simp)⟩, by first | omega | (dsimp only; omega)⟩
    · have : k = i := by omega
      subst this
      exact chk (by omega) ⟨⟨k + 1, by omega, by omega, rfl, next (by simp)⟩, by first | omega | (dsimp only; omega)⟩
  · have e : freeL M (hs.filter d) hs[i] = true := by
      rw [List.take_of_length_le (by omega)] at hall; rw [efree]; exact hall
    rwa [e] at hK

theorem centoref2_Rel_Sort.c {m n : Nat} {M : Nat → Nat → Bool} {O : List Nat} {H : Hp} {K : Option Addr → Nat → Nat → Hp → Prop} (hu : RFO H m O n M)
    (hK : ∀ p l cc H', Sl iv H' p l cc (srt M n) → Le H H' → K p l cc H') : centoref2_Rel_Sort.C (some ⟨m, 0, none⟩) H K := by
  apply centoref2_Rel_Sort.of
  have hlim := hu.lim
  refine centoref2_Rel_Circles.c hu fun p l cc H1 hR le1 => ?_
  have hl := hR.len
  have hhl := hds_len (M := M) (n := n)
  rw [crc_len] at hl
  have hnn : ∀ x ∈ hdsM M n, x < n := fun x hx => (hds_mem.1 hx).1
  have hnd := hds_nodup (M := M) (n := n)
  refine mk rfl (by omega) (by omega) ?_
  intro b hb
  have le2 : Le H1 (upd H1 b (rep l [.bool false])) := .upd hb
  have r2 : ∀ x, x < l → rd (upd H1 b (rep l [.bool false])) b x = some (.bool false) := fun x hx => rd_rep hx
  have t2 : upd H1 b (rep l [.bool false]) b ≠ none := by unfold upd; rw [if_pos rfl]; intro e; cases e
  generalize upd H1 b (rep l [.bool false]) = H2 at *
  have fb : H b = none := none_of_le le1 hb
  have le12 := le1.trans le2
  have h40 : n * n ≤ 40000 := Nat.mul_le_mul hlim hlim
  have hR' : Rw H H1 p l cc ((hdsM M n).map (clsM M n)) := hR
  have ft : ∀ l : List Nat, l.filter (fun _ => true) = l := fun l => List.filter_eq_self.2 (by simp)
  have hsrt0 : ([] : List Nat) ++ srtS M n (hdsM M n).length (hdsM M n) = srt M n := rfl
  generalize hdsM M n = hs at *
  have keep : ∀ H', Mod [b] H2 H' → Le H1 H' := fun H' hm => hm.le le2 (none1 hb)
  refine ⟨fun op ol oc nn Hx => ∃ (n' : Nat) (d : Nat → Bool) (out : List Nat), nn = n' ∧ n' ≤ l ∧ Mod [b] H2 Hx ∧ (∀ k (h : k < hs.length), rd Hx b k = some (.bool (!d hs[k]))) ∧ Buf 1 H2 Hx op ol oc (out.map iv) ∧
    out ++ srtS M n (hs.filter d).length (hs.filter d) = srt M n ∧ ((hs.filter d).length + n' = l ∨ (hs.filter d).find? (freeL M (hs.filter d)) = none) ∧ out.length + n * (hs.filter d).length ≤ n * n, fun _ _ _ nn _ => (l - nn).toNat,
    ⟨0, fun _ => true, [], rfl, by omega, .refl, fun k hk => r2 k (by omega), Buf.none, ?_, .inl ?_, ?_⟩, ?_⟩
  · rw [ft]; exact hsrt0
  · rw [ft]; omega
  · rw [ft, List.length_nil, Nat.zero_add]; exact Nat.mul_le_mul_left n hhl
  rintro op ol oc nn Hx ⟨n', d, out, rfl, hn', mx, hD, hO', hsrt, hor, hlen⟩
  have hol : ol = out.length := by have := hO'.1; simpa using this
  refine bcd (fun h => ?_) (fun h => ?_)
  · refine ⟨fun op' ol' oc' i Hy => ∃ i' : Nat, i = i' ∧ i' ≤ l ∧ op = op' ∧ ol = ol' ∧ oc = oc' ∧ Hx = Hy ∧ ∀ j (h : j < i') (h' : j < hs.length), (d hs[j] && freeL M (hs.filter d) hs[j]) = false, fun _ _ _ i _ => (l - i).toNat,
      ⟨0, rfl, by omega, rfl, rfl, rfl, rfl, fun j h => absurd h (Nat.not_lt_zero _)⟩, ?_⟩
    rintro _ _ _ i _ ⟨i, rfl, hi, rfl, rfl, rfl, rfl, hno⟩
    have leX := keep Hx mx
    refine bcd (fun h => ?_) (fun h => ?_)
    · have hih : i < hs.length := by omega
      have next : (d hs[i] && freeL M (hs.filter d) hs[i]) = false → ∀ j (h : j < i + 1) (h' : j < hs.length), (d hs[j] && freeL M (hs.filter d) hs[j]) = false := fun hf j hj hj' => by
        by_cases e : j = i
        · subst e; exact hf
        · exact hno j (by omega) hj'
      refine idxN i rfl (by omega) (ldB_i (by rw [Nat.zero_add]; exact hD i hih) ?_)
      refine bcn (fun hdi => ?_) (fun hdi => ?_)
      · exact chk (by omega) ⟨⟨i + 1, by omega, by omega, rfl, rfl, rfl, rfl, next (by rw [hdi]; rfl)⟩, by first | omega | (dsimp only; omega)⟩
      · refine centoref2_Rel_free.c (hu.le (le1.trans leX)) (hR'.le leX) hnn hnd hD hih (by omega) ?_
        refine bcn (fun hf => ?_) (fun hf => ?_)
        · exact chk (by omega) ⟨⟨i + 1, by omega, by omega, rfl, rfl, rfl, rfl, next (by rw [hf]; simp)⟩, by first | omega | (dsimp only; omega)⟩
        · have hfind : (hs.filter d).find? (freeL M (hs.filter d)) = some hs[i] := by
            rw [List.find?_filter]
            exact find_at hih (by rw [hdi, hf]; rfl) fun j hj => by
              have := hno j hj (by omega)
              rw [Bool.decide_and, Bool.decide_eq_true, Bool.decide_eq_true]; exact this
          have hsome := srtS_some (n := n) hfind
          have hmem := List.mem_of_find?_eq_some hfind
          have hle1 := List.length_erase_of_mem hmem
          have hpos := List.length_pos_of_mem hmem
          have her : hs.filter (fun h => d h && !decide (h = hs[i])) = (hs.filter d).erase hs[i] := by
            rw [List.Nodup.erase_eq_filter (hnd.filter d), List.filter_filter]
            congr 1
            funext h
            rw [Bool.and_comm]
            congr 1
          have hmul : n + n * ((hs.filter d).length - 1) = n * (hs.filter d).length := by
            obtain ⟨k, hk⟩ : ∃ k, (hs.filter d).length = k + 1 := ⟨(hs.filter d).length - 1, by omega⟩
            rw [hk, Nat.add_sub_cancel, Nat.mul_add, Nat.mul_one, Nat.add_comm]
          refine idxN i rfl (by omega) ?_
          refine st0 (hD i hih) ?_
          have m3 : Mod [b] H2 (wr Hx b i (.bool true)) := mx.wr (.inl (by simp))
          have mX3 : Mod [b] Hx (wr Hx b i (.bool true)) := Mod.refl.wr (.inl (by simp))
          have hD3 : ∀ k (h : k < hs.length), rd (wr Hx b i (.bool true)) b k = some (.bool (!(d hs[k] && !decide (hs[k] = hs[i])))) := fun k hk => by
            by_cases e : k = i
            · subst e; rw [rd_wr_self (hD k hk)]; simp
            · have : ¬ hs[k] = hs[i] := fun e' => e (nodup_inj hnd hk hih e')
              rw [rd_wr_off e, hD k hk]; simp [this]
          generalize wr Hx b i (.bool true) = H3 at *
          have leH3 := keep H3 m3
          have t3 : ∀ x ∈ [b], H3 x ≠ none := fun x hx => by simp at hx; subst hx; exact ne_none_of_rd (hD3 i hih)
          refine (hR'.le leH3).at rfl (by simpa using hih) fun q l' c' hs' hpt _ => ?_
          have hs2 : Sl iv H3 q l' c' (clsM M n hs[i]) := by simpa using hs'
          have hl' := hs2.len
          have hcn := clsM_len (M := M) (n := n) (a := hs[i])
          have hO3 : Buf 1 H2 H3 op ol oc (out.map iv) := hO'.mod mX3 fun x o e hx => by simp at hx; subst hx; exact t2 (hO'.fr x o e)
          refine hO3.appS (n := l') (new := (clsM M n hs[i]).map iv) rfl (by decide) rfl (by decide) (by simp [hl']) (by rw [List.all_eq_true]; intro v hvv; obtain ⟨y, _, rfl⟩ := List.mem_map.1 hvv; rfl) (by simp [te_int]; omega)
            (fun G hG => sl_srcG hs2 hpt G hG) (fun p' c' H4 hO4 hp' hm => ?_) (m3.was t3)
          have hpo : ∀ x ∈ blkL op, H2 x = none := fun x hx => hO'.fr x 0 (blkL_mem hO'.zero hx)
          have hbo : b ∉ blkL op := fun hx => t2 (hpo b hx)
          refine chk (by omega) ⟨⟨n' + 1, fun h => d h && !decide (h = hs[i]), out ++ clsM M n hs[i], by omega, by omega, m3.via hm fun x hx => .inr (hpo x hx), fun k hk => hm.rd hbo (hD3 k hk), by rw [List.map_append]; exact hO4, ?_, ?_, ?_⟩, by first | omega | (dsimp only; omega)⟩
          · rw [her, List.append_assoc, ← hsrt, hsome]
          · rw [her]
            rcases hor with h1 | h1
            · left; omega
            · rw [h1] at hfind; cases hfind
          · rw [her, List.length_append, hle1]; omega
    · have hnone : (hs.filter d).find? (freeL M (hs.filter d)) = none := by
        rw [List.find?_filter]
        exact find_no fun j hj => by
          have := hno j (by omega) hj
          rw [Bool.decide_and, Bool.decide_eq_true, Bool.decide_eq_true]; exact this
      exact chk (by omega) ⟨⟨n' + 1, d, out, by omega, by omega, mx, hD, hO', hsrt, .inr hnone, hlen⟩, by first | omega | (dsimp only; omega)⟩
  · obtain rfl : n' = l := by omega
    have e0 : srtS M n (hs.filter d).length (hs.filter d) = [] := by
      rcases hor with h1 | h1
      · rw [show (hs.filter d).length = 0 by omega]; rfl
      · exact srtS_none h1
    rw [e0, List.append_nil] at hsrt
    rw [← hsrt] at hK
    exact hK _ _ _ _ hO'.sl (le1.trans (keep Hx mx))

/-! ### Orders -/
def ordB (M : Nat → Nat → Bool) (n : Nat) : Bool := (List.range n).all fun a => !M a a
def totB (M : Nat → Nat → Bool) (n : Nat) : Bool := ordB M n && (List.range n).all fun a => (List.range n).all fun b => decide (a = b) || (M a b || M b a)
theorem ordB_iff {M : Nat → Nat → Bool} {n : Nat} : ordB M n = true ↔ ∀ a, a < n → M a a = false := by unfold ordB; simp
theorem totB_iff {M : Nat → Nat → Bool} {n : Nat} : totB M n = true ↔ (∀ a, a < n → M a a = false) ∧ ∀ a, a < n → ∀ b, b < n → a = b ∨ M a b = true ∨ M b a = true := by
  unfold totB; rw [Bool.and_eq_true, ordB_iff]; simp
theorem centoref2_Rel_IsOrder.c {m n : Nat} {M : Nat → Nat → Bool} {O : List Nat} {H : Hp} {K : Bool → Hp → Prop} (hu : RFO H m O n M) (hK : K (ordB M n) H) : centoref2_Rel_IsOrder.C (some ⟨m, 0, none⟩) H K := by
  apply centoref2_Rel_IsOrder.of
  have hlim := hu.lim
  refine ⟨fun t Hx => ∃ t' : Nat, t = t' ∧ t' ≤ n ∧ H = Hx ∧ ∀ a, a < t' → M a a = false, fun t _ => (n - t).toNat, ⟨0, rfl, by omega, rfl, fun a h => absurd h (Nat.not_lt_zero _)⟩, ?_⟩
  rintro t _ ⟨t, rfl, ht, rfl, hall⟩
  refine hu.len ?_
  refine bcd (fun h => ?_) (fun h => ?_)
  · refine hu.get rfl (by omega) rfl (by omega) ?_
    refine bc_i (fun hm => ?_) (fun hm => ?_)
    · have e : ordB M n = false := by
        rw [← Bool.not_eq_true, ordB_iff]
        intro h'
        have := h' t (by omega)
        rw [hm] at this; cases this
      rwa [e] at hK
    · refine chk (by omega) ⟨⟨t + 1, by omega, by omega, rfl, fun a ha => ?_⟩, by first | omega | (dsimp only; omega)⟩
      by_cases e : a = t
      · subst e; exact hm
      · exact hall a (by omega)
  · have e : ordB M n = true := ordB_iff.2 fun a ha => hall a (by omega)
    rwa [e] at hK
/-- One step of IsTotal. -/
def totP (M : Nat → Nat → Bool) (a b : Nat) : Prop := ¬ (M a b = true ∧ M b a = true) ∧ (a = b ∨ M a b = true ∨ M b a = true)
theorem totB_of {M : Nat → Nat → Bool} {n : Nat} (hT : Tr M) : totB M n = true ↔ ∀ a, a < n → ∀ b, b < n → totP M a b := by
  rw [totB_iff]
  constructor
  · rintro ⟨h1, h2⟩ a ha b hb
    refine ⟨fun ⟨g1, g2⟩ => ?_, h2 a ha b hb⟩
    have := hT _ _ _ g1 g2
    rw [h1 a ha] at this; cases this
  · intro h
    refine ⟨fun a ha => ?_, fun a ha b hb => (h a ha b hb).2⟩
    cases e : M a a with
    | false => rfl
    | true => exact absurd ⟨e, e⟩ (h a ha a ha).1
theorem order_IsTotal.c {r : Option Addr} {n : Nat} {M : Nat → Nat → Bool} {H : Hp} {K : Bool → Hp → Prop} (hu : RN H r n M) (hn : n ≤ 200) (hK : ∀ H', Le H H' → K (totB (clo M n) n) H') : order_IsTotal.C r H K := by
  apply order_IsTotal.of
  refine order_closed.c hu fun R O H1 u hT hO le1 => ?_
  refine rel_Rel_Len.c u ?_
  generalize clo M n = N at *
  refine ⟨fun t Hx => ∃ t' : Nat, t = t' ∧ t' ≤ n ∧ H1 = Hx ∧ ∀ a, a < t' → ∀ b, b < n → totP N a b, fun t _ => (n - t).toNat, ⟨0, rfl, by omega, rfl, fun a h => absurd h (Nat.not_lt_zero _)⟩, ?_⟩
  rintro t _ ⟨t, rfl, ht, rfl, hall⟩
  refine bcd (fun h => ?_) (fun h => ?_)
  · have htn : t < n := by omega
    refine rel_Rel_Len.c u ?_
    refine ⟨fun x Hx => ∃ x' : Nat, x = x' ∧ x' ≤ n ∧ H1 = Hx ∧ ∀ b, b < x' → totP N t b, fun x _ => (n - x).toNat, ⟨0, rfl, by omega, rfl, fun a h => absurd h (Nat.not_lt_zero _)⟩, ?_⟩
    rintro x _ ⟨x, rfl, hx, rfl, hin⟩
    refine bcd (fun h => ?_) (fun h => ?_)
    · have hxn : x < n := by omega
      have no : ¬ totP N t x → K false H1 := fun hno => by
        have e : totB N n = false := by
          rw [← Bool.not_eq_true, totB_of hT]
          exact fun h' => hno (h' t htn x hxn)
        rw [← e]; exact hK _ le1
      have go : totP N t x → CHK .i64 ((x : Int) + 1) fun x' => (∃ k : Nat, x' = k ∧ k ≤ n ∧ H1 = H1 ∧ ∀ b, b < k → totP N t b) ∧ (n - x').toNat < (n - (x : Int)).toNat := fun hp =>
        chk (by omega) ⟨⟨x + 1, by omega, by omega, rfl, fun b hb => by
          by_cases e : b = x
          · subst e; exact hp
          · exact hin b (by omega)⟩, by omega⟩
      refine rel_Rel_Has.c u ?_
      rw [hasM_nat]
      refine bc_i (fun h1 => ?_) (fun h1 => ?_)
      · refine rel_Rel_Has.c u ?_
        rw [hasM_nat]
        refine bc_i (fun h2 => no fun hp => hp.1 ⟨h1, h2⟩) (fun h2 => ?_)
        have hp : totP N t x := ⟨fun g => (by rw [h2] at g; cases g.2), .inr (.inl h1)⟩
        refine bcd (fun _ => ?_) (fun _ => go hp)
        refine rel_Rel_Has.c u ?_
        rw [hasM_nat, h1]
        exact bcF (go hp)
      · refine bcd (fun hne => ?_) (fun heq => go ⟨fun g => (by rw [h1] at g; cases g.1), .inl (by omega)⟩)
        refine rel_Rel_Has.c u ?_
        rw [hasM_nat, h1]
        refine bcT (rel_Rel_Has.c u ?_)
        rw [hasM_nat]
        refine bcn (fun h2 => no fun hp => ?_) (fun h2 => go ⟨fun g => (by rw [h1] at g; cases g.1), .inr (.inr h2)⟩)
        rcases hp.2 with e | e | e
        · omega
        · rw [h1] at e; cases e
        · rw [h2] at e; cases e
    · refine chk (by omega) ⟨⟨t + 1, by omega, by omega, rfl, fun a ha b hb => ?_⟩, by first | omega | (dsimp only; omega)⟩
      by_cases e : a = t
      · subst e; exact hin b (by omega)
      · exact hall a (by omega) b hb
  · have e : totB N n = true := (totB_of hT).2 fun a ha => hall a (by omega)
    rw [← e]; exact hK _ le1
theorem centoref2_Rel_IsTotal.c {m n : Nat} {M : Nat → Nat → Bool} {O : List Nat} {H : Hp} {K : Bool → Hp → Prop} (hu : RFO H m O n M) (hK : K (totB M n) H) : centoref2_Rel_IsTotal.C (some ⟨m, 0, none⟩) H K := by
  apply centoref2_Rel_IsTotal.of
  have hlim := hu.lim
  refine ⟨fun t Hx => ∃ t' : Nat, t = t' ∧ t' ≤ n ∧ H = Hx ∧ ∀ a, a < t' → ∀ b, b < a → M a b = true ∨ M b a = true, fun t _ => (n - t).toNat, ⟨0, rfl, by omega, rfl, fun a h => absurd h (Nat.not_lt_zero _)⟩, ?_⟩
  rintro t _ ⟨t, rfl, ht, rfl, hall⟩
  refine hu.len ?_
  refine bcd (fun h => ?_) (fun h => ?_)
  · have htn : t < n := by omega
    refine ⟨fun x Hx => ∃ x' : Nat, x = x' ∧ x' ≤ t ∧ H = Hx ∧ ∀ b, b < x' → M t b = true ∨ M b t = true, fun x _ => (t - x).toNat, ⟨0, rfl, by omega, rfl, fun a h => absurd h (Nat.not_lt_zero _)⟩, ?_⟩
    rintro x _ ⟨x, rfl, hx, rfl, hin⟩
    refine bcd (fun h => ?_) (fun h => ?_)
    · have hxt : x < t := by omega
      have go : (M t x = true ∨ M x t = true) → CHK .i64 ((x : Int) + 1) fun x' => (∃ k : Nat, x' = k ∧ k ≤ t ∧ H = H ∧ ∀ b, b < k → M t b = true ∨ M b t = true) ∧ (t - x').toNat < (t - (x : Int)).toNat := fun hp =>
        chk (by omega) ⟨⟨x + 1, by omega, by omega, rfl, fun b hb => by
          by_cases e : b = x
          · subst e; exact hp
          · exact hin b (by omega)⟩, by omega⟩
      refine hu.get rfl htn rfl (by omega) ?_
      refine bcn (fun h1 => ?_) (fun h1 => go (.inl h1))
      refine hu.get rfl (by omega) rfl htn ?_
      refine bcn (fun h2 => ?_) (fun h2 => go (.inr h2))
      have e : totB M n = false := by
        rw [← Bool.not_eq_true, totB_iff]
        rintro ⟨_, h'⟩
        rcases h' t htn x (by omega) with e | e | e
        · omega
        · rw [h1] at e; cases e
        · rw [h2] at e; cases e
      rwa [e] at hK
    · refine chk (by omega) ⟨⟨t + 1, by omega, by omega, rfl, fun a ha b hb => ?_⟩, by first | omega | (dsimp only; omega)⟩
      by_cases e : a = t
      · subst e; exact hin b (by omega)
      · exact hall a (by omega) b hb
  · refine centoref2_Rel_IsOrder.c hu ?_
    have e : totB M n = ordB M n := by
      rw [Bool.eq_iff_iff, totB_iff, ordB_iff]
      refine ⟨fun g => g.1, fun g => ⟨g, fun a ha b hb => ?_⟩⟩
      rcases Nat.lt_trichotomy a b with h1 | h1 | h1
      · exact .inr ((hall b (by omega) a h1).symm)
      · exact .inl h1
      · exact .inr (hall a (by omega) b h1)
    rwa [e] at hK
end Go.Proofs.YtganockeifkecaaDoor
namespace Go.Proofs.YtganockeifkecaaDoor
open Go.V
/-! ### The least pairs -/
def betw (M : Nat → Nat → Bool) (a b k : Nat) : Bool := (decide (a ≠ k) && M a k) && (decide (k ≠ b) && M k b)
def redB (M : Nat → Nat → Bool) (hs : List Nat) (a b : Nat) : Bool := (decide (a ≠ b) && M a b) && !hs.any (betw M a b)
def redRow (M : Nat → Nat → Bool) (hs : List Nat) (a : Nat) (bs : List Nat) : List (Int × Int) := (bs.filter (redB M hs a)).map fun (b : Nat) => ((a : Int), (b : Int))
def redTo (M : Nat → Nat → Bool) (hs : List Nat) (i k : Nat) : List (Int × Int) := ((hs.take i).flatMap fun a => redRow M hs a hs) ++ redRow M hs (hs.getD i 0) (hs.take k)
def red (M : Nat → Nat → Bool) (n : Nat) : List (Int × Int) := (hdsM M n).flatMap fun a => redRow M (hdsM M n) a (hdsM M n)
theorem redRow_len {M : Nat → Nat → Bool} {hs : List Nat} {a : Nat} {bs : List Nat} : (redRow M hs a bs).length ≤ bs.length := by unfold redRow; rw [List.length_map]; exact List.length_filter_le _ _
theorem flat_len {α : Type} {f : Nat → List α} {c : Nat} (hf : ∀ x, (f x).length ≤ c) : ∀ l : List Nat, (l.flatMap f).length ≤ l.length * c
  | [] => by simp
  | a :: l => by
    rw [List.flatMap_cons, List.length_append, List.length_cons, Nat.add_mul]
    have := flat_len hf l
    have := hf a
    omega
theorem redTo_len {M : Nat → Nat → Bool} {hs : List Nat} {i k : Nat} (hi : i ≤ hs.length) (hk : k ≤ hs.length) (hl : hs.length ≤ 200) : (redTo M hs i k).length ≤ 40200 := by
  unfold redTo
  rw [List.length_append]
  have h1 := flat_len (f := fun a => redRow M hs a hs) (c := hs.length) (fun x => redRow_len) (hs.take i)
  have h2 : (redRow M hs (hs.getD i 0) (hs.take k)).length ≤ (hs.take k).length := redRow_len
  have h3 : (hs.take i).length * hs.length ≤ 200 * 200 := Nat.mul_le_mul (by rw [List.length_take]; omega) hl
  rw [List.length_take] at h2
  omega
theorem redTo_step {M : Nat → Nat → Bool} {hs : List Nat} {i k : Nat} (hi : i < hs.length) (hk : k < hs.length) : redTo M hs i (k + 1) = redTo M hs i k ++ if redB M hs hs[i] hs[k] then [((hs[i] : Int), (hs[k] : Int))] else [] := by
  have e : hs.getD i 0 = hs[i] := by simp [List.getD, hi]
  unfold redTo redRow
  rw [e, List.take_succ_eq_append_getElem hk, List.filter_append, List.map_append, List.append_assoc]
  congr 2
  cases h : redB M hs hs[i] hs[k] with
  | true => simp [h]
  | false => simp [h]
theorem redTo_next {M : Nat → Nat → Bool} {hs : List Nat} {i k : Nat} (hi : i < hs.length) (hk : hs.length ≤ k) : redTo M hs i k = redTo M hs (i + 1) 0 := by
  have e : hs.getD i 0 = hs[i] := by simp [List.getD, hi]
  unfold redTo
  rw [e, List.take_of_length_le hk, List.take_succ_eq_append_getElem hi, List.flatMap_append]
  simp only [List.flatMap_cons, List.flatMap_nil, List.append_nil, redRow, List.take_zero, List.filter_nil, List.map_nil]
theorem redTo_zero {M : Nat → Nat → Bool} {hs : List Nat} : redTo M hs 0 0 = [] := by unfold redTo; simp [redRow]
theorem redTo_end {M : Nat → Nat → Bool} {hs : List Nat} : redTo M hs hs.length 0 = hs.flatMap fun a => redRow M hs a hs := by unfold redTo; simp [redRow]

end Go.Proofs.YtganockeifkecaaDoor
namespace Go.Proofs.YtganockeifkecaaDoor
open Go.V
theorem ofM_prs {M : Nat → Nat → Bool} {n : Nat} (h : Sup M n) : ofM (prs M n) n = M := by
  funext x y
  unfold ofM
  rw [Bool.eq_iff_iff, Bool.and_eq_true, List.any_eq_true, decide_eq_true_eq]
  constructor
  · rintro ⟨_, p, hp, he⟩
    obtain ⟨a, b, _, _, hm, rfl⟩ := prs_mem.1 hp
    simp only [decide_eq_true_eq] at he
    rw [← show a = x by omega, ← show b = y by omega]; exact hm
  · intro hm
    have := h.lt hm
    exact ⟨this, ((x : Int), (y : Int)), prs_mem.2 ⟨x, y, this.1, this.2, hm, rfl⟩, by simp⟩
theorem okP_prs {M : Nat → Nat → Bool} {n : Nat} : okP (prs M n) n = true := by
  unfold okP
  rw [List.all_eq_true]
  intro p hp
  obtain ⟨a, b, ha, hb, _, rfl⟩ := prs_mem.1 hp
  simp only [decide_eq_true_eq]
  omega

theorem centoref2_Some.c {n : Int} {lp : Option Addr} {ll lc : Nat} {l : List (Int × Int)} {H : Hp} {K : Option Addr → Hp → Prop} (hl : Sn 2 pairC H lp ll lc l) (hll : l.length ≤ 1000000000)
    (h3 : ∀ R O H', RFO H' R O (max 0 (min n 200)).toNat (ofM l (max 0 (min n 200)).toNat) → (∀ b ∈ O, H b = none) → Le H H' → K (some ⟨R, 0, none⟩) H') : centoref2_Some.C n lp ll lc H K := by
  apply centoref2_Some.of
  have hlen := hl.len
  refine centoref2_New.c fun R O H1 u1 hO le1 => ?_
  generalize hN : (max 0 (min n 200)).toNat = N at *
  refine ⟨fun t H' => ∃ i : Nat, t = i ∧ i ≤ ll ∧ Le H H' ∧ RFO H' R O N (ofM (l.take i) N), fun t _ => (ll - t).toNat, ⟨0, rfl, by omega, le1, u1.congr fun x y => by simp [ofM]⟩, ?_⟩
  rintro t H2 ⟨i, rfl, hi, le2, u2⟩
  refine bcd (fun h => ?_) (fun h => ?_)
  · have hil : i < l.length := by omega
    have hts := List.take_succ_eq_append_getElem hil
    have hadd := ofM_snoc (l := l.take i) (n := N) (p := l[i])
    rw [← hts] at hadd
    have skip : ¬ (0 ≤ l[i].1 ∧ l[i].1 < (N : Int) ∧ 0 ≤ l[i].2 ∧ l[i].2 < (N : Int)) → CHK .i64 ((i : Int) + 1) fun x55 => (∃ i' : Nat, x55 = i' ∧ i' ≤ ll ∧ Le H H2 ∧ RFO H2 R O N (ofM (l.take i') N)) ∧ (ll - x55).toNat < (ll - (i : Int)).toNat := fun hb =>
      chk (by omega) ⟨⟨i + 1, by omega, by omega, le2, by rw [hadd, addM_out hb]; exact u2⟩, by omega⟩
    refine snA (hl.le le2) (by omega) (by omega) fun _ => ?_
    simp only [Int.toNat_natCast]
    refine centoref2_Rel_Is.c u2 ?_
    refine bcd (fun ha => ?_) (fun ha => bcF (skip fun g => ha ⟨g.1, g.2.1⟩))
    refine snB (hl.le le2) (by omega) (by omega) fun _ => ?_
    simp only [Int.toNat_natCast]
    refine centoref2_Rel_Is.c u2 ?_
    unfold centoref2_Some.k1
    refine bcd (fun hb' => ?_) (fun hb' => skip fun g => hb' g.2.2)
    obtain ⟨x, hx⟩ : ∃ k : Nat, l[i].1 = k := ⟨l[i].1.toNat, by omega⟩
    obtain ⟨y, hy⟩ : ∃ k : Nat, l[i].2 = k := ⟨l[i].2.toNat, by omega⟩
    have hxn : x < N := by omega
    have hyn : y < N := by omega
    obtain ⟨B, bs, hOe, u2⟩ := u2
    obtain ⟨p, c, g1, _, g3⟩ := u2.hm
    obtain rfl := g3.resolve_left (by omega)
    refine nil ?_
    refine ldL_i (by rw [Nat.zero_add]; exact g1) ?_
    refine snA (hl.le le2) (by omega) (by omega) fun _ => ?_
    simp only [Int.toNat_natCast]
    refine idxN x hx hxn ?_
    refine nil ?_
    refine ldL_i (by rw [Nat.zero_add]; exact u2.ptr x (by rw [u2.lb]; exact hxn)) ?_
    refine snB (hl.le le2) (by omega) (by omega) fun _ => ?_
    simp only [Int.toNat_natCast]
    refine idxN y hy hyn ?_
    refine nil ?_
    refine st0 (u2.row x (by rw [u2.lb]; exact hxn) y hyn) ?_
    have hset := u2.set hxn hyn (v := true)
    rw [addSet hxn hyn, ← hx, ← hy, ← hadd] at hset
    have mw : Mod (R :: B :: bs) H2 (wr H2 (bs[x]'(by rw [u2.lb]; exact hxn)) y (.bool true)) := Mod.refl.wr (.inl (by simp))
    exact chk (by omega) ⟨⟨i + 1, by omega, by omega, mw.le le2 (by rw [← hOe]; exact hO), ⟨B, bs, hOe, hset⟩⟩, by first | omega | (dsimp only; omega)⟩
  · have e1 : l.take i = l := List.take_of_length_le (by omega)
    rw [e1] at u2
    exact h3 R O H2 u2 hO le2

/-- How many elements. -/
def cap40 (n : Int) : Nat := (max 0 (min n 40)).toNat
theorem srtS_len {M : Nat → Nat → Bool} {n : Nat} : ∀ k rem, (srtS M n k rem).length ≤ k * n
  | 0, _ => by simp [srtS]
  | k + 1, rem => by
    rw [srtS, Nat.add_mul, Nat.one_mul]
    split
    · simp
    · rename_i h _
      rw [List.length_append]
      have h1 := clsM_len (M := M) (n := n) (a := h)
      have h2 := srtS_len (M := M) (n := n) k (rem.erase h)
      omega
theorem srt_len {M : Nat → Nat → Bool} {n : Nat} (hn : n ≤ 200) : (srt M n).length ≤ 40000 := by
  have h1 := srtS_len (M := M) (n := n) (hdsM M n).length (hdsM M n)
  have h2 := hds_len (M := M) (n := n)
  have h3 : (hdsM M n).length * n ≤ 200 * 200 := Nat.mul_le_mul (by omega) hn
  unfold srt; omega
theorem red_len {M : Nat → Nat → Bool} {n : Nat} (hn : n ≤ 200) : (red M n).length ≤ 40200 := by
  have h2 := hds_len (M := M) (n := n)
  have := redTo_len (M := M) (hs := hdsM M n) (i := (hdsM M n).length) (k := 0) (Nat.le_refl _) (Nat.zero_le _) (by omega)
  rwa [redTo_end] at this
end Go.Proofs.YtganockeifkecaaDoor
namespace Go.Proofs.YtganockeifkecaaDoor
open Go.V
/-! ### Texts -/
abbrev BL := List UInt8
def L (s : ByteArray) : BL := s.data.toList
def mkB (l : BL) : ByteArray := ⟨⟨l⟩⟩
@[simp] theorem L_mk (l : BL) : L (mkB l) = l := rfl
@[simp] theorem mk_L (s : ByteArray) : mkB (L s) = s := rfl
theorem L_inj {a b : ByteArray} (h : L a = L b) : a = b := by rw [← mk_L a, ← mk_L b, h]
theorem L_size (s : ByteArray) : s.size = (L s).length := by cases s; rfl
@[simp] theorem L_bs (l : BL) : L (bs l) = l := rfl
theorem bs_mk (l : BL) : bs l = mkB l := rfl
theorem L_append (a b : ByteArray) : L (a ++ b) = L a ++ L b := by simp [L]
theorem L_extract (s : ByteArray) (j k : Nat) : L (s.extract j k) = ((L s).take k).drop j := by
  simp only [L]
  rw [ByteArray.data_extract]
  simp [List.drop_take]
theorem mkB_size (l : BL) : (mkB l).size = l.length := by rw [L_size]; rfl
theorem ext_take (l : BL) (j : Nat) : (mkB l).extract 0 j = mkB (l.take j) := L_inj (by rw [L_extract]; simp)
theorem ext_drop (l : BL) (j : Nat) : (mkB l).extract j (mkB l).size = mkB (l.drop j) := L_inj (by rw [L_extract, L_size]; simp)
theorem eq_iff_L {a b : ByteArray} : a = b ↔ L a = L b := ⟨fun h => h ▸ rfl, L_inj⟩

/-- A text's lines, a line's beginning in hand. -/
def linesA : BL → BL → List BL
  | acc, [] => if acc = [] then [] else [acc]
  | acc, b :: r => if b = 10 then (acc ++ [b]) :: linesA [] r else linesA (acc ++ [b]) r
def lines (s : BL) : List BL := linesA [] s
theorem linesA_app (acc l r : BL) (h : 10 ∉ l) : linesA acc (l ++ r) = linesA (acc ++ l) r := by
  induction l generalizing acc with
  | nil => simp
  | cons b l ih =>
    simp only [List.mem_cons, not_or] at h
    rw [List.cons_append, linesA, if_neg (fun e => h.1 e.symm), ih _ h.2]
    simp
theorem linesA_line (acc l r : BL) (h : 10 ∉ l) : linesA acc (l ++ 10 :: r) = (acc ++ l ++ [10]) :: lines r := by
  rw [linesA_app _ _ _ h, linesA, if_pos rfl]; rfl
theorem linesA_last (acc l : BL) (h : 10 ∉ l) : linesA acc l = if acc ++ l = [] then [] else [acc ++ l] := by
  have := linesA_app acc l [] h
  rw [List.append_nil] at this
  rw [this, linesA]

theorem indexByte_spec (l : BL) (x : UInt8) : (Lib.indexByte l x = -1 ∧ x ∉ l) ∨ ∃ i : Nat, Lib.indexByte l x = (i : Int) ∧ i < l.length ∧ x ∉ l.take i ∧ l = l.take i ++ x :: l.drop (i + 1) := by
  induction l with
  | nil => left; exact ⟨rfl, by simp⟩
  | cons b l ih =>
    unfold Lib.indexByte
    by_cases hb : b = x
    · subst hb
      right
      exact ⟨0, by simp, by simp, by simp, by simp⟩
    · have hb' : (b == x) = false := by simpa using hb
      rw [if_neg (by rw [hb']; simp)]
      rcases ih with ⟨h1, h2⟩ | ⟨i, h1, h2, h3, h4⟩
      · left
        rw [h1]
        exact ⟨by simp, by simp [h2, Ne.symm hb]⟩
      · right
        refine ⟨i + 1, ?_, by simp; omega, ?_, ?_⟩
        · rw [h1, if_neg (by simp)]; omega
        · simp [h3, Ne.symm hb]
        · simp only [List.take_succ_cons, List.cons_append, List.drop_succ_cons, ← h4]

theorem lines_cut {rest : BL} {i : Nat} (hn : 10 ∉ rest.take i) (hd : rest = rest.take i ++ 10 :: rest.drop (i + 1)) : lines rest = (rest.take i ++ [10]) :: lines (rest.drop (i + 1)) :=
  (congrArg lines hd).trans (linesA_line [] _ _ hn)
theorem take_cut {rest : BL} {i : Nat} (hi : i < rest.length) (hd : rest = rest.take i ++ 10 :: rest.drop (i + 1)) : rest.take (i + 1) = rest.take i ++ [10] := by
  have hx : (rest.take i ++ 10 :: rest.drop (i + 1))[i]? = some 10 := by
    rw [List.getElem?_append_right (by simp; omega)]
    simp [show min i rest.length = i by omega]
  rw [← hd] at hx
  rw [List.take_add_one, hx]; rfl

/-! ### Package strings -/
end Go.Proofs.YtganockeifkecaaDoor
namespace Go.Proofs.YtganockeifkecaaDoor
open Go.V
/-! ### Lines -/
theorem linesA_len (acc l : BL) : (linesA acc l).length ≤ l.length + (if acc = [] then 0 else 1) := by
  induction l generalizing acc with
  | nil => unfold linesA; split <;> simp
  | cons b l ih =>
    unfold linesA
    split
    · have := ih []
      simp at this ⊢
      omega
    · have := ih (acc ++ [b])
      simp at this ⊢
      omega
theorem lines_len (l : BL) : (lines l).length ≤ l.length := by have := linesA_len [] l; simpa [lines] using this
def sv (l : BL) : Value := .string (mkB l)

theorem sl_map {α β : Type} {f : α → Value} {g : β → α} {H : Hp} {p : Option Addr} {l c' : Nat} {xs : List β} : Sl f H p l c' (xs.map g) ↔ Sl (fun x => f (g x)) H p l c' xs := by
  unfold Sl
  simp
end Go.Proofs.YtganockeifkecaaDoor
namespace Go.Proofs.YtganockeifkecaaDoor
open Go.V
/-! ### Join -/
theorem sv_size (x : BL) : (mkB x).size = x.length := rfl
theorem flat_take {xs : List BL} {i : Nat} (h : i < xs.length) : (xs.take (i + 1)).flatten = (xs.take i).flatten ++ xs[i] := by
  rw [List.take_add_one, List.getElem?_eq_getElem h, List.flatten_append]
  simp only [Option.toList, List.flatten_cons, List.flatten_nil, List.append_nil]
theorem flat_one {xs : List BL} (h : 0 < xs.length) : (xs.take 1).flatten = xs[0] := by rw [flat_take (i := 0) h]; rfl
theorem flat_le {xs : List BL} (i : Nat) : (xs.take i).flatten.length ≤ xs.flatten.length := by
  conv => rhs; rw [← List.take_append_drop i xs, List.flatten_append, List.length_append]
  omega
theorem mkB_nil : mkB [] = bs [] := rfl
/-- A slice of texts: one of them. -/
theorem slT {H : Hp} {p : Option Addr} {l c' : Nat} {xs : List BL} (h : Sl sv H p l c' xs) {i : Int} {F : ByteArray → Prop} (h0 : 0 ≤ i) (hi : i < l) (hF : (hi : i.toNat < xs.length) → F (mkB xs[i.toNat])) : IDX i l fun j => NIL p fun b o => ldS (rd H b (o + j)) F :=
  sl_nil h h0 hi fun _ _ hi e => ⟨_, e, hF hi⟩
/-! ### Is -/
/-- Are lines a text's? -/
def isL : List BL → Bool
  | [] => true
  | l :: r => decide (l ≠ [] ∧ 10 ∉ l.dropLast ∧ (r = [] ∨ l.getLast? = some 10)) && isL r
theorem isL_lines (acc l : BL) (h : 10 ∉ acc) : isL (linesA acc l) = true := by
  induction l generalizing acc with
  | nil =>
    unfold linesA
    split
    · rfl
    · rename_i h1
      simp only [isL, Bool.and_true, decide_eq_true_eq, true_or, and_true]
      exact ⟨h1, fun h2 => h (List.dropLast_subset _ h2)⟩
  | cons b l ih =>
    unfold linesA
    split
    · rename_i hb
      subst hb
      simp only [isL, ih [] (by simp), Bool.and_true, decide_eq_true_eq]
      exact ⟨by simp, by simpa using h, .inr (by simp)⟩
    · rename_i hb
      exact ih _ (by simp [h, Ne.symm hb])
theorem lines_of_is : ∀ (xs : List BL), isL xs = true → lines xs.flatten = xs
  | [], _ => rfl
  | l :: r, h => by
    simp only [isL, Bool.and_eq_true, decide_eq_true_eq] at h
    obtain ⟨⟨h1, h2, h3⟩, h4⟩ := h
    have ih := lines_of_is r h4
    by_cases hl : l.getLast? = some 10
    · obtain ⟨m, rfl⟩ := List.getLast?_eq_some_iff.1 hl
      rw [List.dropLast_concat] at h2
      rw [List.flatten_cons, List.append_assoc, List.singleton_append, lines, linesA_line _ _ _ h2, ih]
      simp
    · rcases h3 with h3 | h3
      · subst h3
        have h5 : 10 ∉ l := fun h5 => by
          rw [← List.dropLast_concat_getLast h1] at h5
          rcases List.mem_append.1 h5 with h5 | h5
          · exact h2 h5
          · simp at h5
            exact hl (by rw [List.getLast?_eq_some_getLast h1, h5])
        simp [lines, linesA_last _ _ h5, h1]
      · exact absurd h3 hl
theorem flat_lines (acc l : BL) : (linesA acc l).flatten = acc ++ l := by
  induction l generalizing acc with
  | nil => unfold linesA; split <;> simp_all
  | cons b l ih =>
    unfold linesA
    split
    · rw [List.flatten_cons, ih]; simp
    · rw [ih]; simp
theorem is_iff (xs : List BL) : isL xs = decide (lines xs.flatten = xs) := by
  by_cases h : lines xs.flatten = xs
  · rw [decide_eq_true h, ← h]
    exact isL_lines [] _ (by simp)
  · rw [decide_eq_false h]
    cases hh : isL xs with
    | false => rfl
    | true => exact absurd (lines_of_is xs hh) h
/-- One of the lines, as a program asks it. -/
def okL (l : BL) (last : Bool) : Bool := !(decide (l = []) || (decide (0 ≤ Lib.indexByte l 10) && decide (Lib.indexByte l 10 < (l.length : Int) - 1)) || (decide (Lib.indexByte l 10 < 0) && !last))
theorem okL_eq (l : BL) (last : Bool) : okL l last = decide (l ≠ [] ∧ 10 ∉ l.dropLast ∧ (last = true ∨ l.getLast? = some 10)) := by
  by_cases h0 : l = []
  · subst h0; simp [okL]
  · have hpos : 0 < l.length := List.length_pos_iff.2 h0
    unfold okL
    rcases indexByte_spec l 10 with ⟨e, hn⟩ | ⟨i, e, hi, hn, hd⟩
    · have h1 : 10 ∉ l.dropLast := fun h => hn (List.dropLast_subset _ h)
      have h2 : l.getLast? ≠ some 10 := fun h => hn (List.mem_of_getLast? h)
      rw [e]
      cases last <;> simp [h0, h1, h2]
    · rw [e]
      by_cases hil : i = l.length - 1
      · have e1 : l.take i ++ [10] = l := by rw [← take_cut hi hd, List.take_of_length_le (by omega)]
        have h1 : 10 ∉ l.dropLast := by rw [← e1, List.dropLast_concat]; exact hn
        have h2 : l.getLast? = some 10 := by rw [← e1]; simp
        have h3 : ¬ ((i : Int) < (l.length : Int) - 1) := by omega
        simp [h0, h1, h2, h3]
      · have h1 : 10 ∈ l.dropLast := by
          have : l[i]? = some 10 := by
            have := take_cut hi hd
            have h5 : (l.take (i + 1))[i]? = some 10 := by rw [this, List.getElem?_append_right (by simp; omega)]; simp [show min i l.length = i by omega]
            rwa [List.getElem?_take_of_lt (by omega)] at h5
          have h6 : l.dropLast[i]? = some 10 := by rw [List.getElem?_dropLast, if_pos (by omega)]; exact this
          exact List.mem_of_getElem? h6
        have h3 : (i : Int) < (l.length : Int) - 1 := by omega
        simp [h0, h1, h3]
theorem isL_drop {xs : List BL} {i : Nat} (h : i < xs.length) : isL (xs.drop i) = (okL xs[i] (decide (i + 1 = xs.length)) && isL (xs.drop (i + 1))) := by
  rw [List.drop_eq_getElem_cons h, isL, okL_eq]
  congr 1
  apply decide_eq_decide.2
  rw [decide_eq_true_eq]
  have : xs.drop (i + 1) = [] ↔ i + 1 = xs.length := by rw [List.drop_eq_nil_iff]; omega
  rw [this]
end Go.Proofs.YtganockeifkecaaDoor
namespace Go.Proofs.YtganockeifkecaaDoor
open Go.V
/-! ### Fits -/
def fitsL (xs : List BL) : Bool := decide (xs.length ≤ 40 ∧ ∀ x ∈ xs, x.length ≤ 60)
/-! ### The document's lines -/
theorem getD_L {s : ByteArray} {k : Nat} (h : k < s.size) : s.data.toList.getD k 0 = (L s)[k]'(by rw [← L_size]; exact h) := by
  have : k < (L s).length := by rw [← L_size]; exact h
  show (L s).getD k 0 = _
  simp [List.getD, this]
theorem u8_eq {a b : UInt8} : ((a.toNat : Nat) : Int) = ((b.toNat : Nat) : Int) ↔ a = b := by
  constructor
  · intro h
    exact UInt8.toNat_inj.1 (by omega)
  · rintro rfl; rfl
/-! ### What the statements use -/
end Go.Proofs.YtganockeifkecaaDoor
namespace Go.Proofs.YtganockeifkecaaDoor
open Go.V
/-! ### Files -/
structure Ln where
  p : Int
  n : Int
  t : BL
  d : Bool
def lnC (x : Ln) : List Value := [.int .u32 x.p, .int .i64 x.n, sv x.t, .bool x.d]
theorem lnC_len (x : Ln) : (lnC x).length = 4 := rfl
theorem lnC_cell (x : Ln) : (lnC x).all isCell = true := rfl
/-- A block of a text and two slices. -/
def D3 (H : Hp) (b : Nat) (f : ByteArray) (lp : Option Addr) (ll lc : Nat) (pp : Option Addr) (pl pc : Nat) : Prop := rd H b 0 = some (.string f) ∧ rd H b 1 = some (.slice lp ll lc) ∧ rd H b 2 = some (.slice pp pl pc)
section
variable {H H' : Hp} {b : Nat} {f : ByteArray} {lp pp : Option Addr} {ll lc pl pc : Nat} {O : List Nat}
theorem D3.new : D3 (upd H b [.string f, .slice lp ll lc, .slice pp pl pc]) b f lp ll lc pp pl pc := ⟨by rw [rd_upd_self]; rfl, by rw [rd_upd_self]; rfl, by rw [rd_upd_self]; rfl⟩
theorem D3.le (h : D3 H b f lp ll lc pp pl pc) (hl : Le H H') : D3 H' b f lp ll lc pp pl pc := ⟨hl.rd h.1, hl.rd h.2.1, hl.rd h.2.2⟩
theorem D3.mod (h : D3 H b f lp ll lc pp pl pc) (hl : Mod O H H') (hb : b ∉ O) : D3 H' b f lp ll lc pp pl pc := ⟨hl.rd hb h.1, hl.rd hb h.2.1, hl.rd hb h.2.2⟩
theorem D3.there (h : D3 H b f lp ll lc pp pl pc) : H b ≠ none := ne_none_of_rd h.1
theorem D3.get {K : ByteArray → Option Addr → Nat → Nat → Option Addr → Nat → Nat → Prop} (h : D3 H b f lp ll lc pp pl pc) (hK : K f lp ll lc pp pl pc) :
    ldS (rd H b 0) fun g => ldL (rd H b 1) fun a b' c => ldL (rd H b 2) fun d e f => K g a b' c d e f := ldS_i h.1 (ldL_i h.2.1 (ldL_i h.2.2 hK))
end
/-- The places of what isn't dead. -/
def alv (ls : List Ln) : List Nat := els (fun i => !(ls.getD i ⟨0, 0, [], true⟩).d) ls.length
def alvTo (ls : List Ln) (i : Nat) : List Nat := els (fun i => !(ls.getD i ⟨0, 0, [], true⟩).d) i
section
variable {f : ByteArray} {lp pp : Option Addr} {ll lc pl pc : Nat} {ls : List Ln} {H : Hp}
theorem lnD {i : Nat} (h : i < ls.length) : ls.getD i ⟨0, 0, [], true⟩ = ls[i] := by simp [List.getD, h]
theorem state_Alive.c {K : Option Addr → Nat → Nat → Hp → Prop} (hL : Sn 4 lnC H lp ll lc ls) (hll : ll ≤ 1000000000)
    (hK : ∀ p l c H', Buf 1 H H' p l c ((alv ls).map iv) → Le H H' → K p l c H') : state_Alive.C f lp ll lc pp pl pc H K := by
  apply state_Alive.of
  have el := hL.len
  intro b hb
  have d : D3 (upd H b [.string f, .slice lp ll lc, .slice pp pl pc]) b f lp ll lc pp pl pc := D3.new
  have le1 : Le H (upd H b [.string f, .slice lp ll lc, .slice pp pl pc]) := Le.upd hb
  generalize upd H b [.string f, .slice lp ll lc, .slice pp pl pc] = H1 at *
  refine ldL_i d.2.1 ?_
  refine ⟨fun p l c t Hx => ∃ i : Nat, t = (i : Nat) ∧ i ≤ ll ∧ Le H Hx ∧ Buf 1 H Hx p l c ((alvTo ls i).map iv) ∧ l ≤ i, fun _ _ _ t _ => ((ll : Int) - t).toNat,
    ⟨0, rfl, Nat.zero_le _, le1, Buf.none, Nat.le_refl _⟩, ?_⟩
  rintro p l c t H2 ⟨i, rfl, gi, le2, hB, hli⟩
  refine bcd (fun hlt => ?_) fun hlt => ?_
  · have hil : i < ls.length := by omega
    refine sn_nil (hL.le le2) (by omega) hlt fun q o hi e => ?_
    simp only [Int.toNat_natCast] at hi e ⊢
    refine ldI_i (e 0 _ rfl) (ldI_i (e 1 _ rfl) (ldS_i (e 2 _ rfl) (ldB_i (e 3 _ rfl) ?_)))
    intro t ht
    refine ST_upd rfl (ST_upd rfl (ST_upd rfl (ST_upd rfl ?_)))
    generalize hH4 : upd H2 t _ = H4
    have le4 : Le H2 H4 := by rw [← hH4]; exact Le.upd ht
    have t3 : rd H4 t 3 = some (.bool ls[i].d) := by rw [← hH4, rd_upd_self]; rfl
    clear hH4
    refine ldB_i t3 (bcn (fun hd => ?_) fun hd => ?_)
    · have hs : alvTo ls (i + 1) = alvTo ls i ++ [i] := els_on (by rw [lnD hil, hd]; rfl)
      refine (hB.le le4).pushM (te := te_int) (new := [iv i]) rfl (by decide) rfl (by decide) rfl rfl (by simp [te_int]; omega) (fun p' c' H5 hB5 hp m5 => ?_) (le2.trans le4)
      exact chk (by omega) ⟨⟨i + 1, by omega, by omega, m5.le (le2.trans le4) fun x hx => hB.fr x 0 (blkL_mem hB.zero hx), by rw [hs, List.map_append]; exact hB5, by omega⟩, by first | omega | (dsimp only; omega)⟩
    · have hs : alvTo ls (i + 1) = alvTo ls i := els_off (by rw [lnD hil, hd]; rfl)
      exact chk (by omega) ⟨⟨i + 1, by omega, by omega, le2.trans le4, by rw [hs]; exact hB.le le4, by omega⟩, by first | omega | (dsimp only; omega)⟩
  · have : i = ls.length := by omega
    subst this
    exact hK p l c H2 hB le2
theorem centoref12_Alive.c {K : Option Addr → Nat → Nat → Hp → Prop} (hL : Sn 4 lnC H lp ll lc ls) (hll : ll ≤ 1000000000)
    (hK : ∀ p l c H', Buf 1 H H' p l c ((alv ls).map iv) → Le H H' → K p l c H') : centoref12_Alive.C f lp ll lc pp pl pc H K := by
  apply centoref12_Alive.of
  have el := hL.len
  intro b hb
  have d : D3 (upd H b [.string f, .slice lp ll lc, .slice pp pl pc]) b f lp ll lc pp pl pc := D3.new
  have le1 : Le H (upd H b [.string f, .slice lp ll lc, .slice pp pl pc]) := Le.upd hb
  generalize upd H b [.string f, .slice lp ll lc, .slice pp pl pc] = H1 at *
  refine ⟨fun p l c t Hx => ∃ i : Nat, t = (i : Nat) ∧ i ≤ ll ∧ Le H1 Hx ∧ Buf 1 H1 Hx p l c ((alvTo ls i).map iv) ∧ l ≤ i, fun _ _ _ t _ => ((ll : Int) - t).toNat,
    ⟨0, rfl, Nat.zero_le _, Le.refl _, Buf.none, Nat.le_refl _⟩, ?_⟩
  rintro p l c t H2 ⟨i, rfl, gi, le2, hB, hli⟩
  refine ldL_i (d.le le2).2.1 (bcd (fun hlt => ?_) fun hlt => ?_)
  · have hil : i < ls.length := by omega
    refine ldL_i (d.le le2).2.1 (sn_nil (hL.le (le1.trans le2)) (by omega) hlt fun q o hi e => ?_)
    simp only [Int.toNat_natCast] at hi e ⊢
    refine ldB_i (e 3 _ rfl) (bcn (fun hd => ?_) fun hd => ?_)
    · have hs : alvTo ls (i + 1) = alvTo ls i ++ [i] := els_on (by rw [lnD hil, hd]; rfl)
      refine hB.pushM (te := te_int) (new := [iv i]) rfl (by decide) rfl (by decide) rfl rfl (by simp [te_int]; omega) (fun p' c' H5 hB5 hp m5 => ?_) le2
      exact chk (by omega) ⟨⟨i + 1, by omega, by omega, m5.le le2 fun x hx => hB.fr x 0 (blkL_mem hB.zero hx), by rw [hs, List.map_append]; exact hB5, by omega⟩, by first | omega | (dsimp only; omega)⟩
    · have hs : alvTo ls (i + 1) = alvTo ls i := els_off (by rw [lnD hil, hd]; rfl)
      exact chk (by omega) ⟨⟨i + 1, by omega, by omega, le2, by rw [hs]; exact hB, by omega⟩, by first | omega | (dsimp only; omega)⟩
  · have : i = ls.length := by omega
    subst this
    exact hK p l c H2 (hB.base fun x _ e => none_of_le le1 e) (le1.trans le2)
end
end Go.Proofs.YtganockeifkecaaDoor
