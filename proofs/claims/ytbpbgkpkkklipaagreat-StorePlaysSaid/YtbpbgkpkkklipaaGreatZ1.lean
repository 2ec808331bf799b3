/- Contracts and plain laws that the claim rests on, for every input: no condition. -/
import GoSem.Step
import Derived.RangeFuncLeaves
import Derived.OrdersIn
import Derived.Still
import Derived.KernelRfl
import Derived.Laws.Entries
import Derived.Laws.Cells
import Derived.Laws.IdiomCopy
import Derived.Laws.Concat
import Derived.Laws.Pointers
import Derived.Laws.BytesString
import Derived.Laws.Cover3
import Derived.Laws.StructEq
import Derived.Laws.Tables
import Derived.Laws.MakeOwn
import Derived.Laws.Append
import Derived.Laws.IdiomStrings
import Derived.StillTail
namespace Go.V

abbrev Hp := Nat → Option (List Value)

/-- A cell that isn't to be seen. -/
def nmO : Value → Option Value
  | .tuple _ => none
  | v => some v

/-- Which types of rows of cells are to be seen behind the cells. -/
class Sp where
  sp : TypeId → Bool
  mp : TypeId → Bool

def notT : Value → Bool
  | .tuple _ => false
  | _ => true

/-- A cell as it is seen: what is frozen, and what is a tuple, are marked. -/
def emb : Value → Value
  | .tuple vs => .tuple ⟨[.tuple vs, .tuple ⟨[]⟩]⟩
  | v => v

def maskL (lo hi : Nat) (l : List Value) : List Value := l.mapIdx fun i v => if lo ≤ i ∧ i < hi then .tuple ⟨[v]⟩ else emb v

def tyM (t : TypeId) (lo hi : Nat) : Value := .tuple ⟨[.int .i64 (t : Nat), .int .i64 lo, .int .i64 hi, .bool true, .bool true]⟩
def mkT [Sp] (t : TypeId) (fz : Nat × Nat := (0, 0)) : List Value := bif Sp.sp t then [tyM t fz.1 fz.2] else []
def mkl (l : List Value) (m : List Value) : List Value :=
  match m with
  | [] => l
  | m => l ++ m

/-- A map as it is seen. -/
def mapV (es : List MapEntry) (clock : Nat) : List Value := .tuple ⟨[.int .i64 clock, .bool true, .bool true]⟩ :: es.map fun e => .tuple ⟨[.int .i64 e.born, e.key, e.val]⟩

def optV : Option Nat → Value
  | none => .bool false
  | some n => .int .i64 n

/-- An iterator over a map as it is seen. -/
def iterV (m : Option Nat) (since : Nat) (seen : List Nat) (stepped : Nat) : List Value :=
  .tuple ⟨[optV m, .int .i64 since, .int .i64 stepped, .bool true]⟩ :: seen.map fun (n : Nat) => .tuple ⟨[.int .i64 (n : Int), .bool true, .bool true]⟩

def objB [Sp] : Obj → Option (List Value)
  | .cells c t fz => some (mkl (maskL fz.1 fz.2 c.toList) (mkT t fz))
  | .map es clock => some (mapV es.toList clock)
  | .mapIter m since seen stepped => some (iterV m since seen.toList stepped)
  | _ => none

def hp [Sp] (w : World) : Hp := fun b => (w.heap[b]?).bind objB

def rd (H : Hp) (b o : Nat) : Option Value := (H b).bind fun c => (c[o]?).bind nmO
def upd (H : Hp) (b : Nat) (c : List Value) : Hp := fun x => if x = b then some c else H x
def wr (H : Hp) (b o : Nat) (v : Value) : Hp := fun x => if x = b then (H b).map (fun c => c.set o v) else H x

/-- An object's kind (a row's type), what of it is frozen, how many cells it has. -/
def tagOf : Obj → Option (Nat × Nat × Nat × Nat)
  | .cells c t fz => some ((t : Nat) + 2, fz.1, fz.2, c.size)
  | .map _ _ => some (0, 0, 0, 0)
  | .mapIter .. => some (1, 0, 0, 0)
  | _ => none
def tagAt (w : World) (b : Nat) : Option (Nat × Nat × Nat × Nat) := (w.heap[b]?).bind tagOf

/-- A kind stays; more may be frozen. -/
def TagLe (x y : Option (Nat × Nat × Nat × Nat)) : Prop :=
  y = x ∨ ∃ k l h l' h' n, x = some (k, l, h, n) ∧ y = some (k, l', h', n) ∧ (∀ i, i < n → l ≤ i → i < h → l' ≤ i ∧ i < h') ∧ ∃ i, i < n ∧ (l' ≤ i ∧ i < h') ∧ ¬ (l ≤ i ∧ i < h)

/-- What lies at or above B and isn't to be seen stays as it is. -/
structure Ge [Sp] (B : Nat) (w w' : World) : Prop where
  size : w.heap.size ≤ w'.heap.size
  keep : ∀ b, B ≤ b → b < w.heap.size → hp w b = none → w'.heap[b]? = w.heap[b]?
  tape : w'.tape = w.tape
  os : w'.os = w.os
  output : w'.output = w.output
  tags : ∀ b, B ≤ b → b < w.heap.size → TagLe (tagAt w b) (tagAt w' b)

/-- What lies below C and isn't to be seen stays as it is. -/
structure Lt [Sp] (C : Nat) (w w' : World) : Prop where
  size : w.heap.size ≤ w'.heap.size
  keep : ∀ b, b < C → b < w.heap.size → hp w b = none → w'.heap[b]? = w.heap[b]?
  tape : w'.tape = w.tape
  os : w'.os = w.os
  output : w'.output = w.output
  tags : ∀ b, b < C → b < w.heap.size → TagLe (tagAt w b) (tagAt w' b)

/-- May yield still be called, or was a jump taken (and how stands the outer loop). -/
inductive Al where
  | on
  | off (j : Nat) (up : Al)

def Al.isOn : Al → Bool
  | .on => true
  | .off _ _ => false

inductive AV where
  | v (x : Value)
  | Y

abbrev Fr := List (Nat × AV)

def Fr.get : Fr → Nat → Option AV
  | [], _ => none
  | (j, x) :: r, i => bif Nat.beq j i then some x else Fr.get r i

def Fr.drop (fr : Fr) (ms : List Nat) : Fr := fr.filter fun p => !(ms.any (Nat.beq p.1))

def Fr.setAll : Fr → List Nat → List Value → Fr
  | fr, i :: is, v :: vs => Fr.setAll ((i, .v v) :: fr) is vs
  | fr, _, _ => fr

def evA (fr : Fr) : Operand → Option AV
  | .tmp t => fr.get t
  | .const v => some (.v v)
  | .global g => some (.v (.pointer (some ⟨g, 0, none⟩)))
  | .func f => some (.v (.func (.func f) #[] #[]))

def ev (fr : Fr) (x : Operand) : Option Value :=
  match evA fr x with
  | some (.v v) => some v
  | _ => none

def evs (fr : Fr) : List Operand → Option (List Value)
  | [] => some []
  | x :: r => match ev fr x, evs fr r with
    | some v, some vs => some (v :: vs)
    | _, _ => none

/-! ### Shapes -/
inductive Sh where
  | int (k : IntKind) | bool | str | ptr | slice | map | any
  deriving DecidableEq

def ldI (k : IntKind) (x : Option Value) (F : Int → Prop) : Prop := ∃ n : Int, x = some (.int k n) ∧ F n
def ldB (x : Option Value) (F : Bool → Prop) : Prop := ∃ b : Bool, x = some (.bool b) ∧ F b
def ldS (x : Option Value) (F : ByteArray → Prop) : Prop := ∃ s : ByteArray, x = some (.string s) ∧ F s
def ldP (x : Option Value) (F : Option Addr → Prop) : Prop := ∃ p : Option Addr, x = some (.pointer p) ∧ F p
def ldL (x : Option Value) (F : Option Addr → Nat → Nat → Prop) : Prop := ∃ (p : Option Addr) (l c : Nat), x = some (.slice p l c) ∧ F p l c
def ldM (x : Option Value) (F : Option Nat → Prop) : Prop := ∃ m : Option Nat, x = some (.map m) ∧ F m
def ldV (x : Option Value) (F : Value → Prop) : Prop := ∃ v : Value, x = some v ∧ F v

def ldSh (s : Sh) (x : Option Value) (F : Value → Prop) : Prop :=
  match s with
  | .int k => ldI k x fun n => F (.int k n)
  | .bool => ldB x fun b => F (.bool b)
  | .str => ldS x fun s => F (.string s)
  | .ptr => ldP x fun p => F (.pointer p)
  | .slice => ldL x fun p l c => F (.slice p l c)
  | .map => ldM x fun m => F (.map m)
  | .any => ldV x F

/-- Cells o, o + 1, .. of block b, by their shapes. -/
def ldAgg (H : Hp) (b : Nat) : Nat → List Sh → (List Value → Prop) → Prop
  | _, [], F => F []
  | o, s :: r, F => ldSh s (rd H b o) fun v => ldAgg H b (o + 1) r fun vs => F (v :: vs)

def liftI (k : IntKind) (v : Value) (F : Int → Prop) : Prop :=
  match v with
  | .int k' n => match decEq k k' with
    | isTrue _ => F n
    | isFalse _ => False
  | _ => False
def liftB (v : Value) (F : Bool → Prop) : Prop := match v with | .bool b => F b | _ => False
def liftS (v : Value) (F : ByteArray → Prop) : Prop := match v with | .string b => F b | _ => False
def liftP (v : Value) (F : Option Addr → Prop) : Prop := match v with | .pointer b => F b | _ => False
def liftL (v : Value) (F : Option Addr → Nat → Nat → Prop) : Prop := match v with | .slice p l c => F p l c | _ => False
def liftM (v : Value) (F : Option Nat → Prop) : Prop := match v with | .map b => F b | _ => False

def lift (s : Sh) (v : Value) (F : Value → Prop) : Prop :=
  match s with
  | .int k => liftI k v fun n => F (.int k n)
  | .bool => liftB v fun n => F (.bool n)
  | .str => liftS v fun n => F (.string n)
  | .ptr => liftP v fun n => F (.pointer n)
  | .slice => liftL v fun p l c => F (.slice p l c)
  | .map => liftM v fun n => F (.map n)
  | .any => F v

def d0 (vs : List Value) (F : Prop) : Prop := match vs with | [] => F | _ => False
def d1 (vs : List Value) (F : Value → Prop) : Prop := match vs with | [a] => F a | _ => False
def d2 (vs : List Value) (F : Value → Value → Prop) : Prop := match vs with | [a, b] => F a b | _ => False
def d3 (vs : List Value) (F : Value → Value → Value → Prop) : Prop := match vs with | [a, b, c] => F a b c | _ => False
def d4 (vs : List Value) (F : Value → Value → Value → Value → Prop) : Prop := match vs with | [a, b, c, d] => F a b c d | _ => False
def d5 (vs : List Value) (F : Value → Value → Value → Value → Value → Prop) : Prop := match vs with | [a, b, c, d, e] => F a b c d e | _ => False
def d6 (vs : List Value) (F : Value → Value → Value → Value → Value → Value → Prop) : Prop := match vs with | [a, b, c, d, e, f] => F a b c d e f | _ => False

def lifts (l : List Sh) (vs : List Value) (F : List Value → Prop) : Prop :=
  match l with
  | [] => d0 vs (F [])
  | [s] => d1 vs fun a => lift s a fun x => F [x]
  | [s, t] => d2 vs fun a b => lift s a fun x => lift t b fun y => F [x, y]
  | [s, t, u] => d3 vs fun a b c => lift s a fun x => lift t b fun y => lift u c fun z => F [x, y, z]
  | [s, t, u, v] => d4 vs fun a b c d => lift s a fun x => lift t b fun y => lift u c fun z => lift v d fun z' => F [x, y, z, z']
  | [s, t, u, v, s'] => d5 vs fun a b c d e => lift s a fun x => lift t b fun y => lift u c fun z => lift v d fun x' => lift s' e fun y' => F [x, y, z, x', y']
  | [s, t, u, v, s', t'] => d6 vs fun a b c d e f => lift s a fun x => lift t b fun y => lift u c fun z => lift v d fun x' => lift s' e fun y' => lift t' f fun z' => F [x, y, z, x', y', z']
  | _ => False

def aggV (v : Value) (F : List Value → Prop) : Prop := match v with | .agg cs => F cs.toList | _ => False
def tupV (v : Value) (F : List Value → Prop) : Prop := match v with | .tuple cs => F cs.toList | _ => False

/-! ### Variables of a loop -/
def FT : List Sh → Type → Type
  | [], B => B
  | .int _ :: r, B => Int → FT r B
  | .bool :: r, B => Bool → FT r B
  | .str :: r, B => ByteArray → FT r B
  | .ptr :: r, B => Option Addr → FT r B
  | .slice :: r, B => Option Addr → Nat → Nat → FT r B
  | .map :: r, B => Option Nat → FT r B
  | .any :: r, B => Value → FT r B

def FT.app {B : Type} : (l : List Sh) → FT l B → List Value → Option B
  | [], f, [] => some f
  | .int k :: r, f, .int k' n :: vs => match decEq k k' with
    | isTrue _ => FT.app r (f n) vs
    | isFalse _ => none
  | .bool :: r, f, .bool n :: vs => FT.app r (f n) vs
  | .str :: r, f, .string n :: vs => FT.app r (f n) vs
  | .ptr :: r, f, .pointer n :: vs => FT.app r (f n) vs
  | .slice :: r, f, .slice p l c :: vs => FT.app r (f p l c) vs
  | .map :: r, f, .map n :: vs => FT.app r (f n) vs
  | .any :: r, f, v :: vs => FT.app r (f v) vs
  | _, _, _ => none

def FT.all : (l : List Sh) → (List Value → Prop) → Prop
  | [], F => F []
  | .int k :: r, F => ∀ n : Int, FT.all r fun vs => F (.int k n :: vs)
  | .bool :: r, F => ∀ n : Bool, FT.all r fun vs => F (.bool n :: vs)
  | .str :: r, F => ∀ n : ByteArray, FT.all r fun vs => F (.string n :: vs)
  | .ptr :: r, F => ∀ n : Option Addr, FT.all r fun vs => F (.pointer n :: vs)
  | .slice :: r, F => ∀ (p : Option Addr) (l c : Nat), FT.all r fun vs => F (.slice p l c :: vs)
  | .map :: r, F => ∀ n : Option Nat, FT.all r fun vs => F (.map n :: vs)
  | .any :: r, F => ∀ n : Value, FT.all r fun vs => F (n :: vs)

def appP {l : List Sh} (I : FT l (Hp → Prop)) (vs : List Value) (H : Hp) : Prop :=
  match FT.app l I vs with
  | some i => i H
  | none => False

def appN {l : List Sh} (μ : FT l (Hp → Nat)) (vs : List Value) (H : Hp) : Nat :=
  match FT.app l μ vs with
  | some i => i H
  | none => 0

def getVals (fr : Fr) : List Nat → Option (List Value)
  | [] => some []
  | i :: r => match fr.get i, getVals fr r with
    | some (.v v), some vs => some (v :: vs)
    | _, _ => none

/-! ### Types -/
inductive TD where
  | sc
  | st (fs : List (Nat × TypeId))
  | ar (n : Nat) (e : TypeId)
  | sl (e : TypeId)
  | tup (ts : List TypeId)

structure TE where
  d : TD
  size : Nat
  bytes : Nat
  sh : List Sh
  zc : List Value
  tl : List Value

def shD : Sh → TypeDesc → Bool
  | .int k, .int k' => k == k'
  | .bool, .bool => true
  | .str, .string => true
  | .ptr, .pointer _ => true
  | .ptr, .unsafePointer => true
  | .map, .map _ _ => true
  | .any, .func _ _ _ => true
  | .any, .interface _ => true
  | _, _ => false

/-- The table of types tells the truth. -/
def TSpec [Sp] (P : Program) (t : TypeId) (e : TE) : Prop :=
  e.tl = mkT t ∧ e.zc.all notT = true ∧
  ∃ (i : TypeInfo) (d : TypeDesc), P.info? t = some i ∧ P.underlying t = some d ∧ i.size = e.size ∧ i.bytes = e.bytes ∧
    match e.d with
    | .sc => e.size = 1 ∧ (∃ s z, e.sh = [s] ∧ shD s d = true ∧ e.zc = [z] ∧ i.zero = some z ∧ z.oneCell' = true)
    | .sl el => e.size = 1 ∧ d = .slice el ∧ e.sh = [.slice] ∧ e.zc = [.slice none 0 0] ∧ i.zero = some (.slice none 0 0)
    | .st fs => i.zero = some (.agg ⟨e.zc⟩) ∧ e.zc.length = e.size ∧ e.sh.length = e.size ∧ ∃ fields, d = .struct fields ∧ fields.toList.map (fun f => (f.offset, f.type)) = fs ∧ P.stoodInHeld t = false ∧ P.eqGuardType P.depth t = false ∧ (∀ f ∈ fields.toList, f.name ≠ "_")
    | .ar n el => i.zero = some (.agg ⟨e.zc⟩) ∧ d = .array n el
    | .tup _ => True

abbrev Tab := TypeId → Option TE

def Tab.of : List (TypeId × TE) → Tab
  | [], _ => none
  | (j, x) :: r, i => bif Nat.beq j i then some x else Tab.of r i

def TOk [Sp] (P : Program) (T : Tab) : Prop := ∀ t e, T t = some e → TSpec P t e

theorem TOk.nil [Sp] (P : Program) : TOk P (Tab.of []) := fun _ _ h => by simp [Tab.of] at h
theorem TOk.cons [Sp] {P : Program} {t : TypeId} {e : TE} {l : List (TypeId × TE)} (h : TSpec P t e) (hl : TOk P (Tab.of l)) : TOk P (Tab.of ((t, e) :: l)) := by
  intro u x hu
  simp only [Tab.of] at hu
  cases hb : Nat.beq t u with
  | true =>
    rw [hb] at hu
    simp only [cond_true, Option.some.injEq] at hu
    have := Nat.eq_of_beq_eq_true hb
    subst this; subst hu; exact h
  | false => rw [hb] at hu; exact hl u x hu

/-! ### Small transformers -/
def bc (b : Bool) (A B : Prop) : Prop := match b with | true => A | false => B
def IDX (i : Int) (n : Nat) (F : Nat → Prop) : Prop := ∃ k : Nat, i = (k : Int) ∧ k < n ∧ F k
def NIL (p : Option Addr) (F : Nat → Nat → Prop) : Prop :=
  match p with
  | some ⟨b, o, none⟩ => F b o
  | _ => False
def ST (H : Hp) (b o : Nat) (v : Value) (K : Hp → Prop) : Prop := (rd H b o).isSome = true ∧ K (wr H b o v)
def stAll (b : Nat) : Nat → List Value → Hp → (Hp → Prop) → Prop
  | _, [], H, K => K H
  | o, v :: vs, H, K => ST H b o v fun H' => stAll b (o + 1) vs H' K
def NEW (H : Hp) (c : List Value) (F : Nat → Hp → Prop) : Prop := ∀ b, H b = none → F b (upd H b c)
def CHK (k : IntKind) (e : Int) (F : Int → Prop) : Prop := (k.min ≤ e ∧ e ≤ k.max) ∧ F e
/-- Sums of 64 bits without sign turn round; of all others it is asked that they fit. -/
def ARI (k : IntKind) (e : Int) (F : Int → Prop) : Prop :=
  match k with
  | .u64 => F (IntKind.wrap .u64 e)
  | k => CHK k e F
def mulS (i s : Nat) : Nat := bif Nat.beq s 1 then i else i * s
def isCell : Value → Bool
  | .agg _ => false
  | .tuple _ => false
  | _ => true
def cellsL : Value → List Value
  | .agg cs => cs.toList
  | v => [v]
def rep (n : Nat) (zc : List Value) : List Value :=
  match zc with
  | [z] => List.replicate n z
  | zc => (List.replicate n zc).flatten
def widen : IntKind → IntKind → Bool
  | .i8, .i8 | .i8, .i16 | .i8, .i32 | .i8, .i64 | .i16, .i16 | .i16, .i32 | .i16, .i64 | .i32, .i32 | .i32, .i64 | .i64, .i64 => true
  | .u8, .u8 | .u8, .u16 | .u8, .u32 | .u8, .u64 | .u8, .i16 | .u8, .i32 | .u8, .i64 => true
  | .u16, .u16 | .u16, .u32 | .u16, .u64 | .u16, .i32 | .u16, .i64 => true
  | .u32, .u32 | .u32, .u64 | .u32, .i64 | .u64, .u64 => true
  | _, _ => false

/-! ### What is asked of the code that is called -/
def Ent (P : Program) (k : FuncId) : Prop := ∃ fn, P.funcs[k]? = some fn ∧ fn.body.isSome = true ∧ (fn.name == "runtime.NumGoroutine") = false

/-- A call of code, or of what the model has in its place where there is none. -/
def CallR (P : Program) (k : FuncId) (args : List Value) (w : World) (R : Value → World → Prop) : Prop :=
  (Ent P k ∧ Calls P k ⟨args⟩ w fun e w' => ∃ v, e = .returned v ∧ R v w') ∨
    ((∃ fn, P.funcs[k]? = some fn ∧ fn.body = none) ∧ ∃ v w', (callFunc k ⟨args⟩).run P w = .ok (.value v) w' ∧ R v w')

def CallH [Sp] (P : Program) (k : FuncId) (args : List Value) (H : Hp) (K : Value → Hp → Prop) : Prop :=
  ∀ w, hp w = H → CallR P k args w fun v w' => K v (hp w') ∧ Ge 0 w w'

def CallV [Sp] (P : Program) (f : Value) (args : List Value) (H : Hp) (K : Value → Hp → Prop) : Prop :=
  match f with
  | .func (.func k) first cap => CallH P k (first.toList ++ (args ++ cap.toList)) H K
  | _ => False

def jcode : Exit → Code
  | .exit id => .exit id
  | .goto l => .goto l
  | _ => .ret

def isJump : Exit → Bool
  | .exit _ | .ret => true
  | _ => false

/-- The loop's record, by what has become of it. -/
def stOk (r : Loop) (L : Nat) (js : List Exit) (al : Al) (w : World) : Prop :=
  match al with
  | .on => w.heap[L]? = some (.loop r)
  | .off j _ => ∃ e, js[j]? = some e ∧ isJump e = true ∧ w.heap[L]? = some (.loop { r with state := .done, pending := some (jcode e) })

def yv (L : Nat) : Value := .func (.yield L) #[] #[]

abbrev GT := List Value → Hp → (Al → Hp → Prop) → Prop
/-- The yield of an iterator: its number, what is asked where it is called. -/
structure YG where
  L : Nat
  g : GT
def isF : Operand → Bool
  | .func _ => true
  | _ => false

def YOk [Sp] (P : Program) (L : Nat) (G : GT) (B : Nat) (X : Al → World → Prop) : Prop :=
  ∀ vals (Kb : Al → Hp → Prop) w, X .on w → G vals (hp w) Kb →
    ∃ fn tmps as body, (Instr.yield L ⟨vals⟩).run P w = .ok (.round L fn tmps as body) w ∧
      RoundIn Fence.wide 0 P L fn tmps as body w fun e w' => ∃ al, e = .returned (.bool al.isOn) ∧ Kb al (hp w') ∧ X al w' ∧ Ge B w w'

def ITER [Sp] (P : Program) (k : FuncId) (pre post : List Value) (H : Hp) (G : GT) (K : Al → Hp → Prop) : Prop :=
  Ent P k ∧ ∀ w L (X : Al → World → Prop), hp w = H → L < w.heap.size → (∀ al w w', X al w → Lt (L + 1) w w' → X al w') → X .on w →
    YOk P L G (L + 1) X →
    Calls P k ⟨pre ++ (yv L :: post)⟩ w fun e w' => ∃ v al, e = .returned v ∧ K al (hp w') ∧ X al w' ∧ Ge (L + 1) w w'

def ITERV [Sp] (P : Program) (f : Value) (H : Hp) (G : GT) (K : Al → Hp → Prop) : Prop :=
  match f with
  | .func (.func k) first cap => ITER P k first.toList cap.toList H G K
  | _ => False

/-! ### Operations -/
def isSh (T : Tab) (t : TypeId) (s : Sh) : Bool :=
  match T t with
  | some te => match te.d, te.sh with
    | .sc, [x] => decide (x = s)
    | .sl _, [x] => decide (x = s)
    | _, _ => false
  | none => false

def ordI (op : BinOp) (a b : Int) : Option Bool :=
  match op with
  | .eql => some (decide (a = b))
  | .neq => some (decide (¬ a = b))
  | .lss => some (decide (a < b))
  | .leq => some (decide (a ≤ b))
  | .gtr => some (decide (b < a))
  | .geq => some (decide (b ≤ a))
  | _ => none

def iand (k : IntKind) (x y : Int) : Int := k.wrap (BitVec.ofInt k.bits x &&& BitVec.ofInt k.bits y).toNat
def ior (k : IntKind) (x y : Int) : Int := k.wrap (BitVec.ofInt k.bits x ||| BitVec.ofInt k.bits y).toNat
def ixor (k : IntKind) (x y : Int) : Int := k.wrap (BitVec.ofInt k.bits x ^^^ BitVec.ofInt k.bits y).toNat
def inot (k : IntKind) (x y : Int) : Int := k.wrap (BitVec.ofInt k.bits x &&& ~~~ BitVec.ofInt k.bits y).toNat
def ishl (k : IntKind) (x y : Int) : Int := k.wrap (x * 2 ^ (min y.toNat k.bits))
def ishr (k : IntKind) (x y : Int) : Int := x.fdiv (2 ^ (min y.toNat k.bits))

/-- A part of a struct's cells. -/
def partL (te : TE) (cs : List Value) (off : Nat) : Option Value :=
  match te.d with
  | .sc | .sl _ => cs[off]?
  | .st _ | .ar _ _ => some (.agg ⟨(cs.drop off).take te.size⟩)
  | .tup _ => none

/-- Equality of structs, where it looks at no memory. -/
def eqFs (T : Tab) (eqv : TypeId → Value → Value → Option Bool) : List (Nat × TypeId) → List Value → List Value → Option Bool
  | [], _, _ => some true
  | (o, t) :: r, xs, ys => match T t with
    | none => none
    | some te => match partL te xs o, partL te ys o with
      | some a, some b => match eqv t a b with
        | none => none
        | some u => match r with
          | [] => some u
          | r => match eqFs T eqv r xs ys with
            | none => none
            | some v => some (u && v)
      | _, _ => none

def eqVal (T : Tab) : Nat → TypeId → Value → Value → Option Bool
  | 0, _, _, _ => none
  | d + 1, t, x, y => match T t with
    | none => none
    | some te => match te.d, te.sh, x, y with
      | .sc, [.int _], .int k a, .int k' b => match decEq k k' with
        | isTrue _ => some (decide (a = b))
        | isFalse _ => none
      | .sc, [.bool], .bool a, .bool b => some (decide (a = b))
      | .sc, [.str], .string a, .string b => some (decide (a = b))
      | .st fs, _, .agg xs, .agg ys => eqFs T (eqVal T d) fs xs.toList ys.toList
      | _, _, _, _ => none

/-- Two pointers held against one another: as the model does it. -/
def PEQ (P : Program) (t : TypeId) (op : BinOp) (p : Option Addr) (a : Addr) (F : Bool → Prop) : Prop :=
  ∃ r, (∀ w, (binOp op t (.pointer p) (.pointer (some a))).run P w = .ok (.bool r) w) ∧ F r

def ptC (q : Option Addr) (A : Prop) (B : Addr → Prop) : Prop :=
  match q with
  | none => A
  | some a => B a

def vcBin (P : Program) (T : Tab) (op : BinOp) (xt : TypeId) (x y : Value) (F : Value → Prop) : Prop :=
  match x, y with
  | .int k a, .int k' b =>
    match op with
    | .shl => 0 ≤ b ∧ F (.int k (ishl k a b))
    | .shr => 0 ≤ b ∧ F (.int k (ishr k a b))
    | op => match decEq k k' with
      | isFalse _ => False
      | isTrue _ => match op with
        | .add => ARI k (a + b) fun r => F (.int k r)
        | .sub => ARI k (a - b) fun r => F (.int k r)
        | .mul => ARI k (a * b) fun r => F (.int k r)
        | .quo => ¬ b = 0 ∧ CHK k (a.tdiv b) fun r => F (.int k r)
        | .rem => ¬ b = 0 ∧ F (.int k (a.tmod b))
        | .and => F (.int k (iand k a b))
        | .or => F (.int k (ior k a b))
        | .xor => F (.int k (ixor k a b))
        | .andNot => F (.int k (inot k a b))
        | op => match ordI op a b with
          | some r => F (.bool r)
          | none => False
  | .bool a, .bool b => bif isSh T xt .bool then
      match op with
      | .eql => F (.bool (decide (a = b)))
      | .neq => F (.bool (decide (¬ a = b)))
      | _ => False
    else False
  | .string a, .string b =>
    match op with
    | .eql => F (.bool (decide (a = b)))
    | .neq => F (.bool (decide (¬ a = b)))
    | .add => ((a.size + b.size : Nat) : Int) ≤ 9223372036854775807 ∧ F (.string (a ++ b))
    | .lss => F (.bool (Op.bytesLess a.toList b.toList))
    | .gtr => F (.bool (!(Op.bytesLess a.toList b.toList || decide (a = b))))
    | .leq => F (.bool (Op.bytesLess a.toList b.toList || decide (a = b)))
    | .geq => F (.bool (!Op.bytesLess a.toList b.toList))
    | _ => False
  | .pointer p, .pointer q => ptC q
      (bif isSh T xt .ptr then
        match op with
        | .eql => F (.bool (decide (p = none)))
        | .neq => F (.bool (decide (¬ p = none)))
        | _ => False
      else False)
      (fun a => PEQ P xt op p a fun r => F (.bool r))
  | .slice p _ _, .slice none _ _ => bif isSh T xt .slice then
      match op with
      | .eql => F (.bool (decide (p = none)))
      | .neq => F (.bool (decide (¬ p = none)))
      | _ => False
    else False
  | .map p, .map none => bif isSh T xt .map then
      match op with
      | .eql => F (.bool (decide (p = none)))
      | .neq => F (.bool (decide (¬ p = none)))
      | _ => False
    else False
  | .agg xs, .agg ys =>
    match op, eqVal T 8 xt (.agg xs) (.agg ys) with
    | .eql, some r => F (.bool r)
    | .neq, some r => F (.bool (!r))
    | _, _ => False
  | _, _ => False

def vcUn (op : UnOp) (x : Value) (F : Value → Prop) : Prop :=
  match op, x with
  | .not, .bool b => F (.bool (!b))
  | .neg, .int k a => ARI k (0 - a) fun r => F (.int k r)
  | .xor, .int k a => F (.int k (ixor k (if k.signed then -1 else k.max) a))
  | _, _ => False

/-- Bytes o .. of block b. -/
def BTS (H : Hp) (p : Option Addr) (n : Nat) (F : ByteArray → Prop) : Prop :=
  match p with
  | none => F .empty
  | some ⟨b, o, none⟩ => ∃ l : List UInt8, l.length = n ∧ (∀ i x, l[i]? = some x → rd H b (o + i) = some (.int .u8 x.toNat)) ∧ F ⟨⟨l⟩⟩
  | _ => False

/-- A conversion of a pointer: as the model does it. -/
def CNV [Sp] (P : Program) (src dst : TypeId) (p : Option Addr) (H : Hp) (F : Option Addr → Prop) : Prop :=
  ∃ q, (∀ w, hp w = H → (convert src dst (.pointer p)).run P w = .ok (.pointer q) w) ∧ F q

def opI (fr : Fr) (x : Option Operand) : Option (Option Int) :=
  match x with
  | none => some none
  | some o => match ev fr o with
    | some (.int _ n) => some (some n)
    | _ => none

/-- low, high of a slice expression. -/
def BND (lo hi : Option Int) (len cap : Nat) (F : Nat → Nat → Prop) : Prop :=
  match lo, hi with
  | none, none => F 0 len
  | none, some h => ∃ k : Nat, h = (k : Int) ∧ k ≤ cap ∧ F 0 k
  | some l, none => ∃ j : Nat, l = (j : Int) ∧ j ≤ len ∧ F j len
  | some l, some h => ∃ j k : Nat, l = (j : Int) ∧ h = (k : Int) ∧ k ≤ cap ∧ j ≤ k ∧ F j k

/-- A slice's address moved on by j elements of s cells, where something is left (m: the capacity). -/
def movA (p : Option Addr) (j s m : Nat) : Option Addr :=
  match p with
  | none => none
  | some ⟨b, o, none⟩ => if m = j then some ⟨b, o, none⟩ else some ⟨b, o + mulS j s, none⟩
  | some a => some (if m = j then a else a.add (j * s))

def vcSlice (T : Tab) (t : TypeId) (x : Value) (lo hi mx : Option (Option Int)) (F : Value → Prop) : Prop :=
  match T t, x, lo, hi, mx with
  | some te, .slice p len cap, some lo, some hi, some none =>
    match te.d with
    | .sl e => match T e with
      | some te' => BND lo hi len cap fun j k => F (.slice (movA p j te'.size cap) (k - j) (cap - j))
      | none => False
    | _ => False
  | some te, .slice p len cap, some lo, some (some h), some (some m) =>
    match te.d with
    | .sl e => match T e with
      | some te' => ∃ m' : Nat, m = (m' : Int) ∧ m' ≤ cap ∧ BND lo (some h) len m' fun j k => F (.slice (movA p j te'.size m') (k - j) (m' - j))
      | none => False
    | _ => False
  | some _, .string s, some lo, some hi, some none =>
    bif isSh T t .str then BND lo hi s.size s.size fun j k => F (.string (s.extract j k)) else False
  | some te, .pointer (some ⟨b, o, none⟩), some lo, some hi, some none =>
    match te.d with
    | .ar n e => match T e with
      | some te' => BND lo hi n n fun j k => F (.slice (movA (some ⟨b, o, none⟩) j te'.size n) (k - j) (n - j))
      | none => False
    | _ => False
  | _, _, _, _, _ => False

/-- n cells from o on, whatever they are. -/
def rdN (H : Hp) (b o n : Nat) (cs : List Value) : Prop := cs.length = n ∧ ∀ i v, cs[i]? = some v → rd H b (o + i) = some v

def srcCells (H : Hp) (s : Nat) (x : Value) (F : Nat → List Value → Prop) : Prop :=
  match x with
  | .slice none n _ => F n []
  | .slice (some ⟨b, o, none⟩) n _ => ∃ cs, rdN H b o (n * s) cs ∧ F n cs
  | .slice (some ⟨_, _, some _⟩) n _ => n = 0 ∧ F 0 []
  | .string y => F y.size (y.data.toList.map fun b => Value.int .u8 b.toNat)
  | _ => False

def wrN (H : Hp) (b : Nat) : Nat → List Value → Hp
  | _, [] => H
  | o, v :: vs => wrN (wr H b o v) b (o + 1) vs

/-- append(s, x..). -/
def APP (H : Hp) (te : TE) (p : Option Addr) (len cap : Nat) (x : Value) (F : Option Addr → Nat → Nat → Hp → Prop) : Prop :=
  srcCells H te.size x fun n new =>
    (len + n ≤ cap → match p with
      | none => F none (len + n) cap H
      | some ⟨b, o, none⟩ => (∀ i, i < new.length → (rd H b (o + len * te.size + i)).isSome = true) ∧ (∀ v ∈ new, isCell v = true) ∧ F p (len + n) cap (wrN H b (o + len * te.size) new)
      | _ => False) ∧
    (cap < len + n → Builtin.nextslicecap (len + n) cap * te.bytes ≤ 281474976710656 ∧ 0 < te.bytes ∧
      srcCells H te.size (.slice p len cap) fun _ old =>
        ∀ c b, H b = none → len + n ≤ c → F (some ⟨b, 0, none⟩) (len + n) c (upd H b (mkl (old ++ (new ++ rep (c - (len + n)) te.zc)) te.tl)))

def vcLen (T : Tab) (t : TypeId) (x : Value) (F : Value → Prop) : Prop :=
  match T t, x with
  | some te, .slice _ n _ => match te.d with
    | .sl _ => F (.int .i64 n)
    | _ => False
  | some _, .string s => bif isSh T t .str then F (.int .i64 s.size) else False
  | some te, _ => match te.d with
    | .ar n _ => F (.int .i64 n)
    | _ => False
  | none, _ => False

def foldI (f : Int → Int → Int) : Int → List Value → Option Int
  | a, [] => some a
  | a, .int _ b :: r => foldI f (f a b) r
  | _, _ => none

def bLen (T : Tab) (ts : List TypeId) (args : List Value) (F : Value → Prop) : Prop :=
  match ts, args with
  | t :: _, x :: _ => vcLen T t x F
  | _, _ => False

def bCap (T : Tab) (ts : List TypeId) (args : List Value) (F : Value → Prop) : Prop :=
  match ts, args with
  | t :: _, .slice _ _ c :: _ => match T t with
    | some te => match te.d with
      | .sl _ => F (.int .i64 c)
      | _ => False
    | none => False
  | _, _ => False

def bFold (f : Int → Int → Int) (args : List Value) (F : Value → Prop) : Prop :=
  match args with
  | .int k a :: r => match foldI f a r with
    | some n => F (.int k n)
    | none => False
  | _ => False

def noTup (te : TE) : Bool :=
  match te.d with
  | .tup _ => false
  | .ar _ _ => false
  | _ => true

def notInt (te : TE) : Bool :=
  match te.d, te.sh with
  | .sc, [.str] => true
  | .sl _, [_] => true
  | _, _ => false

/-- append(s, make(.., n)..), where it grows. -/
def APPZ (H : Hp) (te : TE) (p : Option Addr) (len cap : Nat) (n : Int) (F : Option Addr → Nat → Nat → Hp → Prop) : Prop :=
  ∃ k : Nat, n = (k : Int) ∧ cap < len + k ∧ Builtin.nextslicecap (len + k) cap * te.bytes ≤ 281474976710656 ∧ k * te.bytes ≤ 281474976710656 ∧ len + k ≤ 9223372036854775807 ∧ 0 < te.bytes ∧
    srcCells H te.size (.slice p len cap) fun _ old =>
      ∀ c b, H b = none → len + k ≤ c → F (some ⟨b, 0, none⟩) (len + k) c (upd H b (mkl (old ++ (rep k te.zc ++ rep (c - (len + k)) te.zc)) te.tl))

def isI64 (te : TE) : Bool :=
  match te.d, te.sh with
  | .sc, [.int .i64] => true
  | _, _ => false

def bApp (T : Tab) (ts : List TypeId) (args : List Value) (H : Hp) (F : Value → Hp → Prop) : Prop :=
  match ts, args with
  | t :: u :: _, .slice p len cap :: x :: _ => match T t, T u with
    | some te, some ue => match te.d with
      | .sl e => bif notInt ue then
          match T e with
          | some te' => bif noTup te' then APP H te' p len cap x fun p n c H' => F (.slice p n c) H' else False
          | none => False
        else bif isI64 ue then
          match T e with
          | some te' => bif noTup te' then (match x with | .int .i64 n => APPZ H te' p len cap n fun p n c H' => F (.slice p n c) H' | _ => False) else False
          | none => False
        else False
      | _ => False
    | _, _ => False
  | _, _ => False

/-- clear(s). -/
def CLR (H : Hp) (te : TE) (p : Option Addr) (len : Nat) (F : Hp → Prop) : Prop :=
  match p with
  | none => F H
  | some ⟨b, o, none⟩ => (∀ i, i < (rep len te.zc).length → (rd H b (o + i)).isSome = true) ∧ (∀ v ∈ rep len te.zc, isCell v = true) ∧ F (wrN H b o (rep len te.zc))
  | _ => False

def bClr (T : Tab) (ts : List TypeId) (args : List Value) (H : Hp) (F : Value → Hp → Prop) : Prop :=
  match ts, args with
  | t :: _, .slice p len _ :: _ => match T t with
    | some te => match te.d with
      | .sl e => match T e with
        | some te' => bif noTup te' then CLR H te' p len fun H' => F (.tuple #[]) H' else False
        | none => False
      | _ => False
    | none => False
  | _, _ => False

def lift1 (T : Tab) (t : TypeId) (v : Value) (F : Value → Prop) : Prop :=
  match T t with
  | none => False
  | some te => match te.d with
    | .sc | .sl _ => match te.sh with
      | [s] => lift s v F
      | _ => False
    | .st _ => aggV v fun cs => lifts te.sh cs fun vs => F (.agg ⟨vs⟩)
    | _ => False

def liftRes (T : Tab) (t : TypeId) (v : Value) (F : Value → Prop) : Prop :=
  match T t with
  | none => False
  | some te =>
    match te.d with
    | .sc | .sl _ => match te.sh with
      | [s] => lift s v F
      | _ => False
    | .st _ => aggV v fun cs => lifts te.sh cs fun vs => F (.agg ⟨vs⟩)
    | .ar _ _ => False
    | .tup ts => tupV v fun vs => match ts with
      | [] => d0 vs (F (.tuple ⟨[]⟩))
      | [t, u] => d2 vs fun a b => lift1 T t a fun x => lift1 T u b fun y => F (.tuple ⟨[x, y]⟩)
      | [t, u, p] => d3 vs fun a b c => lift1 T t a fun x => lift1 T u b fun y => lift1 T p c fun z => F (.tuple ⟨[x, y, z]⟩)
      | [t, u, p, q] => d4 vs fun a b c d => lift1 T t a fun x => lift1 T u b fun y => lift1 T p c fun z => lift1 T q d fun z' => F (.tuple ⟨[x, y, z, z']⟩)
      | _ => False

/-- A text as a row of bytes: as the model does it. -/
def CNB [Sp] (P : Program) (src dst : TypeId) (s : ByteArray) (H : Hp) (F : Value → Hp → Prop) : Prop :=
  ∀ w, hp w = H → ∃ v w', (convert src dst (.string s)).run P w = .ok v w' ∧ Ge 0 w w' ∧ F v (hp w')

def vcConv [Sp] (P : Program) (T : Tab) (src dst : TypeId) (x : Value) (H : Hp) (F : Value → Hp → Prop) : Prop :=
  match T src, T dst with
  | some se, some te =>
    match te.d, te.sh, x with
    | .sc, [.int k'], .int k n => bif widen k k' then CHK k' n fun n => F (.int k' n) H else F (.int k' (k'.wrap n)) H
    | .sc, [.str], .string s => F (.string s) H
    | .sc, [.ptr], .pointer p => CNV P src dst p H fun q => F (.pointer q) H
    | .sc, [.str], .slice p n _ => match se.d with
      | .sl e => bif isSh T e (.int .u8) then BTS H p n fun s => F (.string s) H else False
      | _ => False
    | .sl _, _, .string s => CNB P src dst s H fun v H' => liftRes T dst v fun v' => F v' H'
    | _, _, _ => False
  | _, _ => False

/-- Another builtin: as the model does it. -/
def BLT [Sp] (P : Program) (b : Builtin) (ts : List TypeId) (ty : TypeId) (args : List Value) (H : Hp) (F : Value → Hp → Prop) : Prop :=
  ∀ w, hp w = H → ∃ v w', (∀ cs, (builtin b ⟨ts⟩ ty cs ⟨args⟩).run P w = .ok (.value v) w') ∧ Ge 0 w w' ∧ F v (hp w')

def vcBuiltin [Sp] (P : Program) (T : Tab) (b : Builtin) (ts : List TypeId) (ty : TypeId) (args : List Value) (H : Hp) (F : Value → Hp → Prop) : Prop :=
  match b with
  | .len => bif ts.any Sp.mp then BLT P .len ts ty args H fun v H' => liftRes T ty v fun v' => F v' H' else bLen T ts args fun v => F v H
  | .cap => bCap T ts args fun v => F v H
  | .min => bFold min args fun v => F v H
  | .max => bFold max args fun v => F v H
  | .append => bApp T ts args H F
  | .clear => bif ts.any Sp.mp then BLT P .clear ts ty args H fun v H' => liftRes T ty v fun v' => F v' H' else bClr T ts args H F
  | .delete => BLT P .delete ts ty args H fun v H' => liftRes T ty v fun v' => F v' H'
  | .unsafeString => BLT P .unsafeString ts ty args H fun v H' => liftRes T ty v fun v' => F v' H'
  | .copy => BLT P .copy ts ty args H fun v H' => liftRes T ty v fun v' => F v' H'
  | .unsafeSliceData => BLT P .unsafeSliceData ts ty args H fun v H' => liftRes T ty v fun v' => F v' H'
  | _ => False

/-- What is done to maps: as the model does it. -/
def LKP [Sp] (P : Program) (t : TypeId) (m : Option Nat) (k : Value) (ok : Bool) (H : Hp) (F : Value → Prop) : Prop :=
  ∀ w, hp w = H → ∃ v, (Instr.lookup t (.map m) k ok).run P w = .ok v w ∧ F v
def MUP [Sp] (P : Program) (t : TypeId) (m : Option Nat) (k v : Value) (H : Hp) (F : Hp → Prop) : Prop :=
  ∀ w, hp w = H → ∃ w', (Instr.mapUpdate t (.map m) k v).run P w = .ok () w' ∧ Ge 0 w w' ∧ F (hp w')
def RNG [Sp] (P : Program) (t : TypeId) (m : Option Nat) (H : Hp) (F : Nat → Hp → Prop) : Prop :=
  ∀ w, hp w = H → ∃ b w', (Instr.range t (.map m)).run P w = .ok (.pointer (some ⟨b, 0, none⟩)) w' ∧ Ge 0 w w' ∧ F b (hp w')
def NXT [Sp] (P : Program) (b : Nat) (ty : TypeId) (H : Hp) (F : Hp → Prop) (G : List Value → Hp → Prop) : Prop :=
  ∀ w, hp w = H → ∃ w', Ge 0 w w' ∧ (((Instr.next (.pointer (some ⟨b, 0, none⟩)) false ty).run P w = .ok (.tuple ⟨[.bool false]⟩) w' ∧ F (hp w')) ∨
    ∃ r, (Instr.next (.pointer (some ⟨b, 0, none⟩)) false ty).run P w = .ok (.tuple ⟨.bool true :: r⟩) w' ∧ G r (hp w'))
def ENT [Sp] (P : Program) (b : Nat) (H : Hp) (F : Value → Value → Prop) : Prop :=
  ∀ w, hp w = H → ∃ k v, (Instr.entry (.pointer (some ⟨b, 0, none⟩))).run P w = .ok (.tuple ⟨[k, v]⟩) w ∧ F k v
def liftX (T : Tab) (t : TypeId) (v : Value) (F : Value → Prop) : Prop :=
  match T t with
  | none => F v
  | some _ => lift1 T t v F

def TAS (v : Value) (t : TypeId) (F : Value → Prop) : Prop := ∃ u, v = .iface t u ∧ F u

/-- Fill places of a row. -/
def fillL (place : Nat → Option (Nat × Nat)) (cells : List Value) : List (Nat × Value) → Option (List Value)
  | [] => some cells
  | (i, v) :: rest =>
    match place i with
    | none => none
    | some (off, size) =>
      bif Nat.beq (cellsL v).length size && Nat.ble (off + size) cells.length then fillL place (putAt cells off (cellsL v)) rest else none
where
  putAt : List Value → Nat → List Value → List Value
    | cs, _, [] => cs
    | cs, o, v :: vs => putAt (cs.set o v) (o + 1) vs

def sizesOf (T : Tab) : List (Nat × TypeId) → Option (List (Nat × Nat))
  | [] => some []
  | (o, t) :: r => match T t, sizesOf T r with
    | some te, some l => some ((o, te.size) :: l)
    | _, _ => none

def evParts (fr : Fr) : List (Nat × Operand) → Option (List (Nat × Value))
  | [] => some []
  | (i, x) :: r => match ev fr x, evParts fr r with
    | some v, some l => some ((i, v) :: l)
    | _, _ => none

def vcOp [Sp] (P : Program) (T : Tab) (yl : Option YG) (o : Oper) (fr : Fr) (H : Hp) (al : Al) (K : AV → Hp → Al → Prop) : Prop :=
  match o.op with
  | .move x | .assign x => match evA fr x with
    | some v => K v H al
    | none => False
  | .pick c a b => match ev fr c with
    | some (.bool t) => bc t (match evA fr a with | some v => K v H al | none => False) (match evA fr b with | some v => K v H al | none => False)
    | _ => False
  | .nilCheck x => match ev fr x with
    | some (.pointer p) => NIL p fun b o => K (.v (.pointer (some ⟨b, o, none⟩))) H al
    | _ => False
  | .fieldAddr s x f => match ev fr x, T s with
    | some (.pointer (some ⟨b, o, none⟩)), some te => match te.d with
      | .st fs => match fs[f]? with
        | some (off, ft) => match T ft with
          | some te' => bif Nat.beq te'.size 0 then False else K (.v (.pointer (some ⟨b, o + off, none⟩))) H al
          | none => False
        | none => False
      | _ => False
    | _, _ => False
  | .indexAddr t x i => match ev fr i, ev fr x, T t with
    | some (.int _ iv), some xv, some te => match te.d, xv with
      | .ar n e, .pointer (some ⟨b, o, none⟩) => match T e with
        | some te' => IDX iv n fun k => K (.v (.pointer (some ⟨b, o + mulS k te'.size, none⟩))) H al
        | none => False
      | .sl e, .slice p len _ => match T e with
        | some te' => IDX iv len fun k => NIL p fun b o => K (.v (.pointer (some ⟨b, o + mulS k te'.size, none⟩))) H al
        | none => False
      | _, _ => False
    | _, _, _ => False
  | .load t x => match ev fr x, T t with
    | some (.pointer (some ⟨b, o, none⟩)), some te => match te.d with
      | .sc | .sl _ => match te.sh with
        | [s] => ldSh s (rd H b o) fun v => K (.v v) H al
        | _ => False
      | .st _ => ldAgg H b o te.sh fun vs => K (.v (.agg ⟨vs⟩)) H al
      | _ => False
    | _, _ => False
  | .store t x v => match ev fr x, ev fr v, T t with
    | some (.pointer (some ⟨b, o, none⟩)), some v, some te => match te.d with
      | .sc | .sl _ => bif isCell v then ST H b o v fun H' => K (.v undef) H' al else False
      | .st _ => match v with
        | .agg cs => bif Nat.beq cs.toList.length te.size && cs.toList.all isCell then stAll b o cs.toList H fun H' => K (.v undef) H' al else False
        | _ => False
      | _ => False
    | _, _, _ => False
  | .alloc t => match T t with
    | some te => match te.d with
      | .tup _ => False
      | _ => NEW H (mkl te.zc te.tl) fun b H' => K (.v (.pointer (some ⟨b, 0, none⟩))) H' al
    | none => False
  | .box t v => match evA fr v with
    | some (.v v) => bif (cellsL v).all notT then NEW H (mkl (cellsL v) (mkT t)) fun b H' => K (.v (.pointer (some ⟨b, 0, none⟩))) H' al else False
    | some .Y => match yl with
      | some G => NEW H (mkl [yv G.L] (mkT t)) fun b H' => K (.v (.pointer (some ⟨b, 0, none⟩))) H' al
      | none => False
    | none => False
  | .build t parts => match T t, evParts fr parts.toList with
    | some te, some ps => match te.d with
      | .st fs => match sizesOf T fs with
        | some pl => match fillL (fun i => pl[i]?) te.zc ps with
          | some cs => K (.v (.agg ⟨cs⟩)) H al
          | none => False
        | none => False
      | .ar _ e => match T e with
        | some te' => match fillL (fun i => some (i * te'.size, te'.size)) te.zc ps with
          | some cs => K (.v (.agg ⟨cs⟩)) H al
          | none => False
        | none => False
      | _ => False
    | _, _ => False
  | .buildSlice t len parts => match T t, evParts fr parts.toList with
    | some te, some ps => match te.d with
      | .sl e => match T e with
        | some te' => bif noTup te' && Nat.ble (len * te'.size) 16777216 then
            match fillL (fun i => some (i * te'.size, te'.size)) (rep len te'.zc) ps with
            | some cs => bif cs.all notT then NEW H (mkl cs te'.tl) fun b H' => K (.v (.slice (some ⟨b, 0, none⟩) len len)) H' al else False
            | none => False
          else False
        | none => False
      | _ => False
    | _, _ => False
  | .makeSlice t l c => match ev fr l, ev fr c, T t with
    | some (.int _ lv), some (.int _ cv), some te => match te.d with
      | .sl e => match T e with
        | some te' => ∃ n m : Nat, lv = (n : Int) ∧ cv = (m : Int) ∧ n ≤ m ∧ te'.bytes * m ≤ 281474976710656 ∧ m < 9223372036854775808 ∧
            (bif noTup te' then NEW H (mkl (rep m te'.zc) te'.tl) fun b H' => K (.v (.slice (some ⟨b, 0, none⟩) n m)) H' al else False)
        | none => False
      | _ => False
    | _, _, _ => False
  | .binOp op xt x y _ => match ev fr x, ev fr y with
    | some a, some b => vcBin P T op xt a b fun v => K (.v v) H al
    | _, _ => False
  | .unOp op _ x => match ev fr x with
    | some a => vcUn op a fun v => K (.v v) H al
    | none => False
  | .convert src dst x => match ev fr x with
    | some a => vcConv P T src dst a H fun v H' => K (.v v) H' al
    | none => False
  | .makeFunc fn first cap => match evs fr first.toList, evs fr cap.toList with
    | some f, some c => K (.v (.func fn ⟨f⟩ ⟨c⟩)) H al
    | _, _ => False
  | .slice t x lo hi mx => match ev fr x with
    | some v => vcSlice T t v (opI fr lo) (opI fr hi) (opI fr mx) fun v => K (.v v) H al
    | none => False
  | .field t x f => match ev fr x, T t with
    | some (.agg cs), some te => match te.d with
      | .st fs => match fs[f]? with
        | some (off, ft) => match T ft with
          | some te' => match partL te' cs.toList off with
            | some v => K (.v v) H al
            | none => False
          | none => False
        | none => False
      | _ => False
    | _, _ => False
  | .index t x i => match ev fr x, ev fr i with
    | some (.string s), some (.int _ iv) => bif isSh T t .str then IDX iv s.size fun k => K (.v (.int .u8 (s.data.toList.getD k 0).toNat)) H al else False
    | _, _ => False
  | .extract x i => match ev fr x with
    | some (.tuple vs) => match vs.toList[i]? with
      | some v => liftX T o.type v fun v' => K (.v v') H al
      | none => False
    | _ => False
  | .makeInterface t x => match ev fr x with
    | some (.map m) => bif isSh T t .map then K (.v (.iface t (.map m))) H al else False
    | _ => False
  | .typeAssert x _ t false => match ev fr x with
    | some v => bif isSh T t .map then TAS v t fun u => liftM u fun m => K (.v (.map m)) H al else False
    | none => False
  | .makeMap _ none => NEW H (mapV [] 0) fun b H' => K (.v (.map (some b))) H' al
  | .lookup t x i ok => match ev fr x, ev fr i with
    | some (.map m), some k => LKP P t m k ok H fun v => liftRes T o.type v fun v' => K (.v v') H al
    | _, _ => False
  | .mapUpdate t x i v | .insert t x i v => match ev fr x, ev fr i, ev fr v with
    | some (.map m), some k, some u => MUP P t m k u H fun H' => K (.v undef) H' al
    | _, _, _ => False
  | .range t x => match ev fr x with
    | some (.map m) => RNG P t m H fun b H' => K (.v (.pointer (some ⟨b, 0, none⟩))) H' al
    | _ => False
  | .next x false => match ev fr x with
    | some (.pointer (some ⟨b, 0, none⟩)) => NXT P b o.type H (fun H' => K (.v (.tuple ⟨[.bool false]⟩)) H' al) fun r H' => K (.v (.tuple ⟨.bool true :: r⟩)) H' al
    | _ => False
  | .entry x => match ev fr x with
    | some (.pointer (some ⟨b, 0, none⟩)) => ENT P b H fun k v => K (.v (.tuple ⟨[k, v]⟩)) H al
    | _ => False
  | .call c => match c.callee with
    | .builtin b => match evs fr c.args.toList with
      | some args => vcBuiltin P T b c.argTypes.toList o.type args H fun v H' => K (.v v) H' al
      | none => False
    | .value f => match evA fr f, evs fr c.args.toList with
      | some (.v g), some args => match yl, al with
        | some G, .on => bif isF f then CallV P g args H fun v H' => liftRes T o.type v fun v' => K (.v v') H' .on
          else (g = yv G.L ∧ G.g args H fun al' H' => match al' with
            | .on => K (.v (.bool true)) H' .on
            | .off j up => K (.v (.bool false)) H' (.off j up)) ∨ CallV P g args H fun v H' => liftRes T o.type v fun v' => K (.v v') H' .on
        | _, _ => CallV P g args H fun v H' => liftRes T o.type v fun v' => K (.v v') H' al
      | some .Y, some args => match yl, al with
        | some G, .on => G.g args H fun al' H' => match al' with
          | .on => K (.v (.bool true)) H' .on
          | .off j up => K (.v (.bool false)) H' (.off j up)
        | _, _ => False
      | _, _ => False
    | _ => False
  | _ => False

def setD (n : Nat) (d : Option Tmp) (fr : Fr) (x : AV) (K : Fr → Prop) : Prop :=
  match d with
  | none => K fr
  | some d => bif Nat.blt d n then K ((d, x) :: fr) else False

def vcOps [Sp] (P : Program) (T : Tab) (yl : Option YG) (n : Nat) (ops : Array Oper) (K : Fr → Hp → Al → Prop) : List Nat → Fr → Hp → Al → Prop
  | [], fr, H, al => K fr H al
  | i :: rest, fr, H, al =>
    match ops[i]? with
    | none => False
    | some o =>
      match o.guard with
      | none => vcOp P T yl o fr H al fun x H' al' => setD n o.dst fr x fun fr' => vcOps P T yl n ops K rest fr' H' al'
      | some (j, want) =>
        match (ops[j]?).bind (·.dst) with
        | none => False
        | some s => match fr.get s with
          | some (.v (.bool b)) => bc b
              (match want with
               | true => vcOp P T yl o ((s, .v (.bool true)) :: fr) H al fun x H' al' => setD n o.dst ((s, .v (.bool true)) :: fr) x fun fr' => vcOps P T yl n ops K rest fr' H' al'
               | false => setD n o.dst ((s, .v (.bool true)) :: fr) (.v undef) fun fr' => vcOps P T yl n ops K rest fr' H al)
              (match want with
               | true => setD n o.dst ((s, .v (.bool false)) :: fr) (.v undef) fun fr' => vcOps P T yl n ops K rest fr' H al
               | false => vcOp P T yl o ((s, .v (.bool false)) :: fr) H al fun x H' al' => setD n o.dst ((s, .v (.bool false)) :: fr) x fun fr' => vcOps P T yl n ops K rest fr' H' al')
          | some (.v (.tuple _)) => setD n o.dst fr (.v undef) fun fr' => vcOps P T yl n ops K rest fr' H al
          | _ => False

/-! ### Code -/
def opsMods (ops : List Oper) : List Nat := ops.filterMap (·.dst)

def mods : Code → List Nat
  | .region _ ops _ => opsMods ops.toList
  | .seq a b => mods a ++ mods b
  | .cond _ a b => mods a ++ mods b
  | .block _ c | .loop c | .scope c => mods c
  | .rangeFunc .. => []
  | _ => []

/-- A variable of a loop: one cell, or a struct by value. -/
inductive VS where
  | one (s : Sh)
  | agg (l : List Sh)

def shsOf : List (Nat × VS) → List Sh
  | [] => []
  | (_, .one s) :: r => s :: shsOf r
  | (_, .agg l) :: r => l ++ shsOf r

def flatV : List (Nat × VS) → List Value → Option (List Value)
  | [], [] => some []
  | (_, .one _) :: r, v :: vs => match flatV r vs with
    | some fs => some (v :: fs)
    | none => none
  | (_, .agg l) :: r, .agg cs :: vs => bif Nat.beq cs.toList.length l.length then
      match flatV r vs with
      | some fs => some (cs.toList ++ fs)
      | none => none
    else none
  | _, _ => none

def unflat : List (Nat × VS) → List Value → List Value
  | [], _ => []
  | (_, .one _) :: r, v :: fs => v :: unflat r fs
  | (_, .one _) :: _, [] => []
  | (_, .agg l) :: r, fs => .agg ⟨fs.take l.length⟩ :: unflat r (fs.drop l.length)

theorem unflat_flat : ∀ {l : List (Nat × VS)} {vs fs : List Value}, flatV l vs = some fs → unflat l fs = vs
  | [], [], fs, h => by simp only [flatV, Option.some.injEq] at h; subst h; rfl
  | [], _ :: _, fs, h => by simp [flatV] at h
  | (_, .one _) :: r, [], fs, h => by simp [flatV] at h
  | (_, .one _) :: r, v :: vs, fs, h => by
    simp only [flatV] at h
    split at h
    · rename_i gs hg
      simp only [Option.some.injEq] at h
      subst h
      simp only [unflat]
      rw [unflat_flat hg]
    · cases h
  | (_, .agg l) :: r, [], fs, h => by simp [flatV] at h
  | (_, .agg l) :: r, v :: vs, fs, h => by
    cases v <;> simp only [flatV, reduceCtorEq] at h
    rename_i cs
    cases hb : Nat.beq cs.toList.length l.length with
    | false => rw [hb] at h; cases h
    | true =>
      rw [hb] at h
      simp only [cond_true] at h
      have hl := Nat.eq_of_beq_eq_true hb
      split at h
      · rename_i gs hg
        simp only [Option.some.injEq] at h
        subst h
        simp only [unflat]
        rw [← hl, List.take_left, List.drop_left, unflat_flat hg]
      · cases h

def eqE : Exit → Exit → Bool
  | .exit a, .exit b => Nat.beq a b
  | .ret, .ret => true
  | _, _ => false

def addE (l : List Exit) (e : Exit) : List Exit := bif l.any (eqE e) then l else l ++ [e]

/-- The jumps that leave a piece of code. -/
def jmps : Code → List Exit
  | .exit id => [.exit id]
  | .ret => [.ret]
  | .seq a b => (jmps b).foldl addE (jmps a)
  | .cond _ a b => (jmps b).foldl addE (jmps a)
  | .block id c => (jmps c).filter fun e => !eqE e (.exit id)
  | .loop c | .scope c => jmps c
  | .rangeFunc _ _ _ c => jmps c
  | _ => []

def idxE : List Exit → Exit → Option Nat
  | [], _ => none
  | x :: r, e => bif eqE x e then some 0 else match idxE r e with
    | some j => some (j + 1)
    | none => none

/-- By which jump a loop was left. -/
def selJ (js : List Exit) (j : Nat) (F : Exit → Prop) : Prop :=
  match js with
  | [] => True
  | [e] => F e
  | e :: r => bif Nat.beq j 0 then F e else selJ r (j - 1) F

theorem eqE_spec {x e : Exit} (h : eqE x e = true) : x = e ∧ isJump e = true := by
  cases x <;> cases e <;> simp [eqE, isJump] at h ⊢
  exact h

theorem idxE_spec : ∀ {l : List Exit} {e : Exit} {j : Nat}, idxE l e = some j → l[j]? = some e ∧ isJump e = true
  | [], e, j, h => by simp [idxE] at h
  | x :: r, e, j, h => by
    simp only [idxE] at h
    cases hb : eqE x e with
    | true =>
      rw [hb] at h
      simp only [cond_true, Option.some.injEq] at h
      subst h
      obtain ⟨h1, h2⟩ := eqE_spec hb
      exact ⟨by simp [h1], h2⟩
    | false =>
      rw [hb] at h
      simp only [cond_false] at h
      split at h
      · rename_i i hi
        simp only [Option.some.injEq] at h
        subst h
        obtain ⟨h1, h2⟩ := idxE_spec hi
        exact ⟨by simpa using h1, h2⟩
      · cases h

theorem selJ_spec : ∀ {js : List Exit} {j : Nat} {F : Exit → Prop} {e : Exit}, js[j]? = some e → selJ js j F → F e
  | [], j, F, e, h, _ => by simp at h
  | [x], j, F, e, h, hs => by
    cases j with
    | zero => simp at h; subst h; exact hs
    | succ j => simp at h
  | x :: z :: r, j, F, e, h, hs => by
    cases j with
    | zero => simp at h; subst h; exact hs
    | succ j =>
      have hs' : selJ (z :: r) (j + 1 - 1) F := hs
      exact selJ_spec (by simpa using h) hs'

/-- Loop variables: one cell's worth, or a struct's. -/
def liftW (s : VS) (v : Value) (F : Value → Prop) : Prop :=
  match s with
  | .one s => lift s v F
  | .agg l => aggV v fun cs => lifts l cs fun vs => F (.agg ⟨vs⟩)
def liftWs (l : List VS) (vs : List Value) (F : List Value → Prop) : Prop :=
  match l with
  | [] => d0 vs (F [])
  | [s] => d1 vs fun a => liftW s a fun x => F [x]
  | [s, t] => d2 vs fun a b => liftW s a fun x => liftW t b fun y => F [x, y]
  | [s, t, u] => d3 vs fun a b c => liftW s a fun x => liftW t b fun y => liftW u c fun z => F [x, y, z]
  | _ => False

structure Ann where
  loops : List (Nat × List (Nat × VS))
  pars : List (Nat × VS)

def lookN {α : Type} : List (Nat × α) → Nat → Option α
  | [], _ => none
  | (j, x) :: r, i => bif Nat.beq j i then some x else lookN r i

def parSh (A : Ann) : List Nat → Option (List VS)
  | [] => some []
  | i :: r => match lookN A.pars i, parSh A r with
    | some s, some l => some (s :: l)
    | _, _ => none

def quietOp [Sp] : Op → Bool
  | .move _ | .assign _ | .pick .. | .nilCheck _ | .fieldAddr .. | .indexAddr .. | .load .. | .binOp .. | .unOp .. | .slice .. | .field .. | .index .. | .extract .. | .makeFunc .. => true
  | .call { callee := .builtin .len, argTypes := ts, .. } => !(ts.toList.any Sp.mp)
  | .call { callee := .builtin .cap, .. } | .call { callee := .builtin .min, .. } | .call { callee := .builtin .max, .. } => true
  | _ => false

end Go.V
namespace Go.V
set_option linter.unusedSectionVars false

def avV (y : Value) : AV → Value
  | .v x => x
  | .Y => y

def Sat (y : Value) (n : Nat) (fr : Fr) (a : Act) : Prop :=
  a.tmps.size = n ∧ ∀ i x, fr.get i = some x → a.tmps[i]? = some (avV y x)

theorem Sat.cons {y : Value} {n : Nat} {fr : Fr} {a : Act} (h : Sat y n fr a) {d : Nat} (hd : d < n) (x : AV) (a' : Act) (ht : a'.tmps = a.tmps.setIfInBounds d (avV y x)) : Sat y n ((d, x) :: fr) a' := by
  refine ⟨by rw [ht]; simpa using h.1, fun i z hz => ?_⟩
  simp only [Fr.get] at hz
  cases hb : Nat.beq d i with
  | true =>
    rw [hb] at hz
    have := Nat.eq_of_beq_eq_true hb
    subst this
    simp only [cond_true, Option.some.injEq] at hz
    subst hz
    rw [ht]
    have : d < a.tmps.size := by rw [h.1]; exact hd
    simp [this]
  | false =>
    rw [hb] at hz
    have hne : d ≠ i := fun e => by subst e; simp at hb
    rw [ht, Array.getElem?_setIfInBounds_ne hne]
    exact h.2 i z hz

theorem Sat.lit {y : Value} {n : Nat} {fr : Fr} {a : Act} (h : Sat y n fr a) {s : Nat} {x : AV} (hs : fr.get s = some x) : Sat y n ((s, x) :: fr) a := by
  refine ⟨h.1, fun i z hz => ?_⟩
  simp only [Fr.get] at hz
  cases hb : Nat.beq s i with
  | true =>
    rw [hb] at hz
    have := Nat.eq_of_beq_eq_true hb
    subst this
    simp only [cond_true, Option.some.injEq] at hz
    subst hz
    exact h.2 s x hs
  | false => rw [hb] at hz; exact h.2 i z hz

section
variable [Sp] {P : Program} {T : Tab} {y : Value} {n : Nat} {fr : Fr} {a : Act} {w : World}

theorem evA_eval (h : Sat y n fr a) {x : Operand} {v : AV} (hx : evA fr x = some v) : a.eval x = avV y v := by
  cases x with
  | tmp t =>
    simp only [evA] at hx
    have := h.2 t v hx
    simp [Act.eval, this]
  | const u => simp only [evA, Option.some.injEq] at hx; subst hx; rfl
  | global g => simp only [evA, Option.some.injEq] at hx; subst hx; rfl
  | func f => simp only [evA, Option.some.injEq] at hx; subst hx; rfl

theorem ev_eval (h : Sat y n fr a) {x : Operand} {v : Value} (hx : ev fr x = some v) : a.eval x = v := by
  unfold ev at hx
  split at hx
  · rename_i u hu
    simp only [Option.some.injEq] at hx
    subst hx
    exact evA_eval h hu
  · cases hx

theorem evs_eval (h : Sat y n fr a) : ∀ {l : List Operand} {vs : List Value}, evs fr l = some vs → l.map a.eval = vs
  | [], vs, hx => by simp only [evs, Option.some.injEq] at hx; subst hx; rfl
  | x :: r, vs, hx => by
    simp only [evs] at hx
    split at hx
    · rename_i v us hv hus
      simp only [Option.some.injEq] at hx
      subst hx
      simp [ev_eval h hv, evs_eval h hus]
    · cases hx

theorem evsA_eval (h : Sat y n fr a) {l : Array Operand} {vs : List Value} (hx : evs fr l.toList = some vs) : l.map a.eval = ⟨vs⟩ := by
  have := evs_eval h hx
  apply Array.ext'
  simpa using this

/-! ### The heap's view -/
theorem maskL_get (lo hi : Nat) (l : List Value) (o : Nat) : (maskL lo hi l)[o]? = (l[o]?).map fun v => if lo ≤ o ∧ o < hi then .tuple ⟨[v]⟩ else emb v := by
  unfold maskL; rw [List.getElem?_mapIdx]
theorem emb_notT {v : Value} (h : notT v = true) : emb v = v := by cases v <;> first | rfl | cases h
theorem maskL_none {l : List Value} (h : l.all notT = true) : maskL 0 0 l = l := by
  apply List.ext_getElem?
  intro i
  rw [maskL_get]
  cases hi : l[i]? with
  | none => rfl
  | some v => simp [emb_notT (List.all_eq_true.1 h v (List.mem_of_getElem? hi))]
theorem isCell_notT {v : Value} (h : isCell v = true) : notT v = true := by cases v <;> first | rfl | cases h
theorem maskL_len {lo hi : Nat} {l : List Value} : (maskL lo hi l).length = l.length := by simp [maskL]
theorem maskL_set {lo hi : Nat} {l : List Value} {o : Nat} {v : Value} (h : ¬ (lo ≤ o ∧ o < hi)) (hv : notT v = true) : maskL lo hi (l.set o v) = (maskL lo hi l).set o v := by
  apply List.ext_getElem?
  intro i
  rw [maskL_get, List.getElem?_set, List.getElem?_set, maskL_get, maskL_len]
  by_cases e : o = i
  · subst e
    simp only [if_true, if_neg h]
    split
    · simp [emb_notT hv]
    · rfl
  · simp only [if_neg e]
theorem mkl_eq (l m : List Value) : mkl l m = l ++ m := by cases m <;> simp [mkl]
theorem nmO_some {u v : Value} (h : nmO u = some v) : u = v ∧ ∀ a, v ≠ .tuple a := by
  unfold nmO at h
  split at h
  · cases h
  · rename_i hh
    obtain rfl := Option.some.inj h
    exact ⟨rfl, fun a e => hh a e⟩
theorem nmO_notT {u v : Value} (h : nmO u = some v) : notT v = true := by
  obtain ⟨_, h2⟩ := nmO_some h
  cases v <;> first | rfl | exact absurd rfl (h2 _)
theorem mkT_no {t : TypeId} {fz : Nat × Nat} {v : Value} (h : v ∈ mkT t fz) : nmO v = none := by
  unfold mkT at h
  cases hs : Sp.sp t <;> rw [hs] at h
  · cases h
  · simp only [cond_true, List.mem_singleton] at h; subst h; rfl
theorem mkl_get {l : List Value} {t : TypeId} {fz : Nat × Nat} {o : Nat} : ((mkl l (mkT t fz))[o]?).bind nmO = (l[o]?).bind nmO := by
  rw [mkl_eq]
  by_cases h : o < l.length
  · rw [List.getElem?_append_left h]
  · rw [List.getElem?_append_right (by omega), List.getElem?_eq_none (l := l) (by omega)]
    cases hg : (mkT t fz)[o - l.length]? with
    | none => rfl
    | some v => simpa using mkT_no (List.mem_of_getElem? hg)
theorem rd_mapped {es : List MapEntry} {clock o : Nat} : ((mapV es clock)[o]?).bind nmO = none := by
  cases o with
  | zero => rfl
  | succ o =>
    simp only [mapV, List.getElem?_cons_succ, List.getElem?_map]
    cases es[o]? <;> rfl
theorem rd_iter {m : Option Nat} {a b o : Nat} {seen : List Nat} : ((iterV m a seen b)[o]?).bind nmO = none := by
  cases o with
  | zero => rfl
  | succ o =>
    simp only [iterV, List.getElem?_cons_succ, List.getElem?_map]
    cases seen[o]? <;> rfl
theorem rd_world {b o : Nat} {v : Value} (h : rd (hp w) b o = some v) : ∃ c t fz, w.heap[b]? = some (.cells c t fz) ∧ c[o]? = some v ∧ ¬ (fz.1 ≤ o ∧ o < fz.2) ∧ notT v = true := by
  simp only [rd, hp] at h
  cases hb : w.heap[b]? with
  | none => simp [hb] at h
  | some ob =>
    rw [hb] at h
    cases ob <;> simp only [Option.bind_some, objB, Option.bind_none, reduceCtorEq] at h
    case map => rw [rd_mapped] at h; cases h
    case mapIter => rw [rd_iter] at h; cases h
    rename_i c t fz
    rw [mkl_get, maskL_get] at h
    cases hc : c.toList[o]? with
    | none => simp [hc] at h
    | some u =>
      rw [hc] at h
      simp only [Option.map_some, Option.bind_some] at h
      obtain ⟨h1, h2⟩ := nmO_some h
      by_cases hf : fz.1 ≤ o ∧ o < fz.2
      · rw [if_pos hf] at h1; exact absurd h1.symm (h2 _)
      · rw [if_neg hf] at h1
        have hu : u = v := by
          cases u <;> first | exact h1 | exact absurd h1.symm (h2 _)
        subst hu
        exact ⟨c, t, fz, rfl, by simpa using hc, hf, nmO_notT h⟩
theorem cell_of_rd {b o : Nat} {v : Value} (h : rd (hp w) b o = some v) : w.cell? ⟨b, o, none⟩ = some v := by
  obtain ⟨c, t, fz, hb, hc, _, _⟩ := rd_world h
  simp [World.cell?, hb, hc]

theorem frozen_of_rd {b o : Nat} {v : Value} (h : rd (hp w) b o = some v) : w.frozen? ⟨b, o, none⟩ = false := by
  obtain ⟨c, t, ⟨lo, hi⟩, hb, hc, hf, _⟩ := rd_world h
  simp only [World.frozen?, hb]
  simp only [Bool.and_eq_false_imp, decide_eq_true_eq, decide_eq_false_iff_not]
  simp only at hf
  omega

theorem hp_setCell {b o : Nat} {v u : Value} (h : rd (hp w) b o = some u) (hv : notT v = true) : hp (w.setCell ⟨b, o, none⟩ v) = wr (hp w) b o v := by
  obtain ⟨c, t, fz, hb, hc, hf, _⟩ := rd_world h
  have ho : o < c.toList.length := by
    have := (Array.getElem?_eq_some_iff.1 hc).1
    simpa using this
  funext x
  simp only [wr, hp, World.setCell]
  rw [Array.getElem?_modify]
  by_cases hx : x = b
  · subst hx
    simp only [if_true, hb, Option.map_some, Option.bind_some, objB, Option.isSome_none, Bool.false_eq_true, if_false, Array.toList_setIfInBounds]
    rw [maskL_set hf hv, mkl_eq, mkl_eq, List.set_append_left _ _ (by rw [maskL_len]; exact ho)]
  · simp only [if_neg hx, if_neg (fun e => hx (Eq.symm e))]

theorem hp_alloc (c : Array Value) (t : TypeId) (hc : c.toList.all notT = true) : hp (w.alloc (.cells c t)) = upd (hp w) w.heap.size (mkl c.toList (mkT t)) := by
  funext x
  simp only [upd, hp, World.alloc]
  by_cases hx : x = w.heap.size
  · subst hx
    simp [objB, maskL_none hc]
  · simp only [if_neg hx]
    rw [Array.getElem?_push]
    simp [hx]

theorem hp_fresh : hp w w.heap.size = none := by simp [hp]

theorem hp_drew : hp w.drew = hp w := rfl

theorem tag_of_same {w w' : World} {b : Nat} (h : w'.heap[b]? = w.heap[b]?) : tagAt w' b = tagAt w b := by simp [tagAt, h]
theorem TagLe.refl (x : Option (Nat × Nat × Nat × Nat)) : TagLe x x := .inl rfl
theorem TagLe.of {x y : Option (Nat × Nat × Nat × Nat)} (h : y = x) : TagLe x y := .inl h
theorem TagLe.trans {x y z : Option (Nat × Nat × Nat × Nat)} (h : TagLe x y) (h' : TagLe y z) : TagLe x z := by
  rcases h with rfl | ⟨k, l, g, l', g', n, rfl, rfl, h1, i, h2, h3, h4⟩
  · exact h'
  · rcases h' with rfl | ⟨k', a, c, a', c', n', e1, rfl, h5, _⟩
    · exact .inr ⟨k, l, g, l', g', n, rfl, rfl, h1, i, h2, h3, h4⟩
    · simp only [Option.some.injEq, Prod.mk.injEq] at e1
      obtain ⟨rfl, rfl, rfl, rfl⟩ := e1
      exact .inr ⟨k, l, g, a', c', n, rfl, rfl, fun j hj h6 h7 => h5 j hj (h1 j hj h6 h7).1 (h1 j hj h6 h7).2, i, h2, h5 i h2 h3.1 h3.2, h4⟩
theorem Ge.refl (B : Nat) (w : World) : Ge B w w := ⟨Nat.le_refl _, fun _ _ _ _ => rfl, rfl, rfl, rfl, fun _ _ _ => .refl _⟩
theorem hp_of_same {w w' : World} {b : Nat} (h : w'.heap[b]? = w.heap[b]?) : hp w' b = hp w b := by simp [hp, h]
theorem Ge.trans {B : Nat} {w w1 w2 : World} (h : Ge B w w1) (h' : Ge B w1 w2) : Ge B w w2 :=
  ⟨Nat.le_trans h.size h'.size, fun b hB hb hn => by
    have h1 := h.keep b hB hb hn
    rw [h'.keep b hB (Nat.lt_of_lt_of_le hb h.size) (by rw [hp_of_same h1]; exact hn), h1],
    h'.tape.trans h.tape, h'.os.trans h.os, h'.output.trans h.output, fun b hB hb => (h.tags b hB hb).trans (h'.tags b hB (Nat.lt_of_lt_of_le hb h.size))⟩
theorem Ge.mono {B B' : Nat} {w w' : World} (h : Ge B w w') (hb : B ≤ B') : Ge B' w w' :=
  ⟨h.size, fun b h1 h2 h3 => h.keep b (Nat.le_trans hb h1) h2 h3, h.tape, h.os, h.output, fun b h1 h2 => h.tags b (Nat.le_trans hb h1) h2⟩
theorem Ge.lt {C : Nat} {w w' : World} (h : Ge 0 w w') : Lt C w w' :=
  ⟨h.size, fun b _ h2 h3 => h.keep b (Nat.zero_le _) h2 h3, h.tape, h.os, h.output, fun b _ h2 => h.tags b (Nat.zero_le _) h2⟩
theorem Lt.mono {C C' : Nat} {w w' : World} (h : Lt C w w') (hc : C' ≤ C) : Lt C' w w' :=
  ⟨h.size, fun b h1 h2 h3 => h.keep b (Nat.lt_of_lt_of_le h1 hc) h2 h3, h.tape, h.os, h.output, fun b h1 h2 => h.tags b (Nat.lt_of_lt_of_le h1 hc) h2⟩

theorem Ge.drew (w : World) : Ge 0 w w.drew := ⟨Nat.le_refl _, fun _ _ _ _ => rfl, rfl, rfl, rfl, fun _ _ _ => .refl _⟩
theorem Ge.alloc (w : World) (o : Obj) : Ge 0 w (w.alloc o) := by
  have key : ∀ b, b < w.heap.size → (w.alloc o).heap[b]? = w.heap[b]? := fun b hb => by
    simp only [World.alloc]
    rw [Array.getElem?_push]
    simp [Nat.ne_of_lt hb]
  exact ⟨by simp, fun b _ hb _ => key b hb, rfl, rfl, rfl, fun b _ hb => .of (tag_of_same (key b hb))⟩
theorem Ge.setCell {b o : Nat} {u : Value} (v : Value) (h : rd (hp w) b o = some u) : Ge 0 w (w.setCell ⟨b, o, none⟩ v) := by
  have key : ∀ x, tagAt (w.setCell ⟨b, o, none⟩ v) x = tagAt w x := fun x => ?_
  refine ⟨by simp, fun x _ _ hx => ?_, rfl, rfl, rfl, fun x _ _ => .of (key x)⟩
  · simp only [World.setCell]
    rw [Array.getElem?_modify]
    have : b ≠ x := fun e => by subst e; simp [rd, hx] at h
    simp [this]
  · obtain ⟨c, t, fz, hb, hc, hf, _⟩ := rd_world h
    simp only [tagAt, World.setCell]
    rw [Array.getElem?_modify]
    by_cases e : b = x
    · subst e
      simp [hb, tagOf]
    · simp [e]

/-! ### Values -/
theorem add_off (b o k : Nat) : (⟨b, o, none⟩ : Addr).add k = ⟨b, o + k, none⟩ := by
  unfold Addr.add
  split
  · simp_all
  · rfl
theorem mulS_eq (i s : Nat) : mulS i s = i * s := by
  unfold mulS
  cases h : Nat.beq s 1 with
  | true => have := Nat.eq_of_beq_eq_true h; subst this; simp
  | false => rfl

theorem run_typeInfo {t : TypeId} {i : TypeInfo} (h : P.info? t = some i) : (typeInfo t).run P w = .ok i w := by simp [typeInfo, h]
theorem run_sizeOf {t : TypeId} {i : TypeInfo} (h : P.info? t = some i) : (sizeOf t).run P w = .ok i.size w := by simp [sizeOf, run_typeInfo h]

theorem shD_notAgg {s : Sh} {d : TypeDesc} (h : shD s d = true) : (match d with | .struct _ | .array _ _ => true | _ => false) = false := by
  cases s <;> cases d <;> first | rfl | exact absurd (show false = true from h) (by decide)

theorem run_isAgg_sc {t : TypeId} {s : Sh} {d : TypeDesc} (hu : P.underlying t = some d) (h : shD s d = true) : (isAgg t).run P w = .ok false w := by
  have := shD_notAgg h
  cases d <;> simp_all [isAgg, run_underlying hu] <;> rfl

theorem ldSh_elim {s : Sh} {x : Option Value} {F : Value → Prop} (h : ldSh s x F) : ∃ v, x = some v ∧ F v := by
  cases s <;> simp only [ldSh, ldI, ldB, ldS, ldP, ldL, ldM, ldV] at h
  case slice => obtain ⟨p, l, c, h1, h2⟩ := h; exact ⟨_, h1, h2⟩
  all_goals obtain ⟨u, h1, h2⟩ := h; exact ⟨_, h1, h2⟩

theorem ldAgg_elim {H : Hp} {b : Nat} : ∀ {l : List Sh} {o : Nat} {F : List Value → Prop}, ldAgg H b o l F → ∃ vs, vs.length = l.length ∧ (∀ i v, vs[i]? = some v → rd H b (o + i) = some v) ∧ F vs
  | [], o, F, h => ⟨[], rfl, by simp, h⟩
  | s :: r, o, F, h => by
    simp only [ldAgg] at h
    obtain ⟨v, hv, h⟩ := ldSh_elim h
    obtain ⟨vs, hl, hr, hF⟩ := ldAgg_elim h
    refine ⟨v :: vs, by simp [hl], fun i x hx => ?_, hF⟩
    cases i with
    | zero => simp at hx; subst hx; simpa using hv
    | succ i => simp at hx; have := hr i x hx; rw [← this]; congr 1; omega

theorem run_load_sc {t : TypeId} {b o : Nat} {v : Value} (ha : (isAgg t).run P w = .ok false w) (h : rd (hp w) b o = some v) :
    (Instr.loadAt t (.pointer (some ⟨b, o, none⟩))).run P w = .ok v w := by
  simp [Instr.loadAt, Instr.sureAddr, loadVar, ha, cell_of_rd h]

theorem run_load_st {t : TypeId} {b o : Nat} {vs : List Value} {i : TypeInfo} {fs : Array Field} (hu : P.underlying t = some (.struct fs)) (hi : P.info? t = some i) (hs : i.size = vs.length)
    (h : ∀ i v, vs[i]? = some v → rd (hp w) b (o + i) = some v) : (Instr.loadAt t (.pointer (some ⟨b, o, none⟩))).run P w = .ok (.agg ⟨vs⟩) w := by
  have ha : (isAgg t).run P w = .ok true w := by simp [isAgg, run_underlying hu]
  have hc : (loadCells ⟨b, o, none⟩ vs.length).run P w = .ok ⟨vs⟩ w := by
    have := run_loadCells_list (P := P) (w := w) ⟨b, o, none⟩ vs (fun j v hj => by rw [add_off]; exact cell_of_rd (h j v hj))
    exact this
  simp [Instr.loadAt, Instr.sureAddr, loadVar, ha, run_sizeOf hi, hs, hc]

theorem run_fieldPlace {b o : Nat} {f : Field} {i : TypeInfo} (hi : P.info? f.type = some i) (hs : i.size ≠ 0) : (fieldPlace ⟨b, o, none⟩ f).run P w = .ok ⟨b, o + f.offset, none⟩ w := by
  simp [fieldPlace, run_sizeOf hi, hs, add_off]

theorem TSpec.size {t : TypeId} {e : TE} (h : TSpec P t e) : ∃ i, P.info? t = some i ∧ i.size = e.size ∧ i.bytes = e.bytes := by
  obtain ⟨_, _, i, d, hi, hu, hs, hb, h⟩ := h
  exact ⟨i, hi, hs, hb⟩

end
end Go.V
namespace Go.V
set_option linter.unusedSectionVars false
variable [Sp]

section
variable {P : Program} {T : Tab} {yl : Option YG} {y : Value} {n : Nat} {fr : Fr} {a : Act} {w : World} {o : Oper} {al : Al} {H : Hp} {K : AV → Hp → Al → Prop}

/-- What a quiet operation comes to. -/
abbrev QOk (P : Program) (y : Value) (o : Oper) (a : Act) (H : Hp) (al : Al) (K : AV → Hp → Al → Prop) : Prop :=
  ∃ x, (∀ w, (execOp a.eval o).run P w = .ok (.value (avV y x)) w) ∧ K x H al

/-- The cells that a load has read. -/
def HoldsH (H : Hp) (R : List (Nat × Nat × Value)) : Prop := ∀ r ∈ R, rd H r.1 r.2.1 = some r.2.2
def cellsFrom (b : Nat) : Nat → List Value → List (Nat × Nat × Value)
  | _, [] => []
  | o, v :: vs => (b, o, v) :: cellsFrom b (o + 1) vs
def ldCells (T : Tab) (fr : Fr) (o : Oper) (x : AV) : List (Nat × Nat × Value) :=
  match o.op with
  | .load t p => match T t, ev fr p, x with
    | some te, some (.pointer (some ⟨b, off, none⟩)), .v v => match te.d with
      | .st _ => cellsFrom b off (cellsL v)
      | _ => [(b, off, v)]
    | _, _, _ => []
  | _ => []
/-- What any operation that looks comes to: what it has read, it reads wherever that stands. -/
def QAny (P : Program) (T : Tab) (y : Value) (fr : Fr) (o : Oper) (a : Act) (H : Hp) (al : Al) (K : AV → Hp → Al → Prop) : Prop :=
  ∃ x, HoldsH H (ldCells T fr o x) ∧ (∀ w, HoldsH (hp w) (ldCells T fr o x) → (execOp a.eval o).run P w = .ok (.value (avV y x)) w) ∧ K x H al

theorem lift_elim {s : Sh} {v : Value} {F : Value → Prop} (h : lift s v F) : F v := by
  cases s <;> simp only [lift, liftI, liftB, liftS, liftP, liftL, liftM] at h
  case int k =>
    split at h <;> try exact h.elim
    split at h <;> try exact h.elim
    rename_i hk _
    subst hk
    exact h
  case any => exact h
  all_goals (split at h <;> first | exact h | exact h.elim)

theorem lifts_elim {l : List Sh} {vs : List Value} {F : List Value → Prop} (h : lifts l vs F) : F vs ∧ vs.length = l.length := by
  unfold lifts at h
  split at h <;> simp only [d0, d1, d2, d3, d4, d5, d6] at h <;> try exact h.elim
  all_goals (split at h <;> try exact h.elim)
  · exact ⟨h, rfl⟩
  · exact ⟨lift_elim h, rfl⟩
  · exact ⟨lift_elim (lift_elim h), rfl⟩
  · exact ⟨lift_elim (lift_elim (lift_elim h)), rfl⟩
  · exact ⟨lift_elim (lift_elim (lift_elim (lift_elim h))), rfl⟩
  · exact ⟨lift_elim (lift_elim (lift_elim (lift_elim (lift_elim h)))), rfl⟩
  · exact ⟨lift_elim (lift_elim (lift_elim (lift_elim (lift_elim (lift_elim h))))), rfl⟩

theorem aggV_elim {v : Value} {F : List Value → Prop} (h : aggV v F) : ∃ cs, v = .agg cs ∧ F cs.toList := by
  unfold aggV at h
  split at h
  · exact ⟨_, rfl, h⟩
  · exact h.elim
theorem liftW_elim {s : VS} {v : Value} {F : Value → Prop} (h : liftW s v F) : F v := by
  cases s with
  | one s => exact lift_elim h
  | agg l =>
    simp only [liftW] at h
    obtain ⟨cs, rfl, h2⟩ := aggV_elim h
    have := (lifts_elim h2).1
    simpa using this
theorem liftWs_elim {l : List VS} {vs : List Value} {F : List Value → Prop} (h : liftWs l vs F) : F vs ∧ vs.length = l.length := by
  unfold liftWs at h
  split at h <;> simp only [d0, d1, d2, d3] at h <;> try exact h.elim
  all_goals (split at h <;> try exact h.elim)
  · exact ⟨h, rfl⟩
  · exact ⟨liftW_elim h, rfl⟩
  · exact ⟨liftW_elim (liftW_elim h), rfl⟩
  · exact ⟨liftW_elim (liftW_elim (liftW_elim h)), rfl⟩


theorem lift1_elim {t : TypeId} {v : Value} {F : Value → Prop} (h : lift1 T t v F) : F v := by
  unfold lift1 at h
  split at h <;> try exact h.elim
  rename_i te hte
  split at h <;> try exact h.elim
  · split at h <;> try exact h.elim
    exact lift_elim h
  · split at h <;> try exact h.elim
    exact lift_elim h
  · obtain ⟨cs, rfl, h2⟩ := aggV_elim h
    have := (lifts_elim h2).1
    simpa using this

theorem liftX_elim {t : TypeId} {v : Value} {F : Value → Prop} (h : liftX T t v F) : F v := by
  unfold liftX at h
  split at h
  · exact h
  · exact lift1_elim h

theorem bc_elim {b : Bool} {A B : Prop} (h : bc b A B) : (b = true ∧ A) ∨ (b = false ∧ B) := by cases b <;> simp_all [bc]

theorem q_pick {c x z : Operand} (ho : o.op = .pick c x z) (h : vcOp P T yl o fr H al K) (hS : Sat y n fr a) : QOk P y o a H al K := by
  simp only [vcOp, ho] at h
  split at h
  · rename_i t ht
    have hc := ev_eval hS ht
    rcases bc_elim h with ⟨rfl, h'⟩ | ⟨rfl, h'⟩
    all_goals
      clear h
      split at h' <;> try exact h'.elim
      rename_i v hv
      exact ⟨v, fun w => by simp [execOp, ho, hc, asBool, evA_eval hS hv], h'⟩
  · exact h.elim

theorem NIL_elim {p : Option Addr} {F : Nat → Nat → Prop} (h : NIL p F) : ∃ b o, p = some ⟨b, o, none⟩ ∧ F b o := by
  unfold NIL at h
  split at h
  · exact ⟨_, _, rfl, h⟩
  · exact h.elim

theorem q_nilCheck {x : Operand} (ho : o.op = .nilCheck x) (h : vcOp P T yl o fr H al K) (hS : Sat y n fr a) : QOk P y o a H al K := by
  simp only [vcOp, ho] at h
  split at h
  · rename_i p hp'
    have hc := ev_eval hS hp'
    obtain ⟨b, off, rfl, h⟩ := NIL_elim h
    exact ⟨_, fun w => by simp [execOp, ho, hc, avV], h⟩
  · exact h.elim

theorem q_fieldAddr {s : TypeId} {x : Operand} {f : Nat} (hT : TOk P T) (ho : o.op = .fieldAddr s x f) (h : vcOp P T yl o fr H al K) (hS : Sat y n fr a) : QOk P y o a H al K := by
  simp only [vcOp, ho] at h
  split at h <;> try exact h.elim
  rename_i b off te hx hte
  split at h <;> try exact h.elim
  rename_i fs hfs
  split at h <;> try exact h.elim
  rename_i off' ft hf
  split at h <;> try exact h.elim
  rename_i te' hte'
  cases hz : Nat.beq te'.size 0 with
  | true => rw [hz] at h; exact h.elim
  | false =>
    rw [hz] at h
    simp only [cond_false] at h
    have hc := ev_eval hS hx
    obtain ⟨_, _, i, d, hi, hu, _, _, hh⟩ := hT _ _ hte
    rw [hfs] at hh
    obtain ⟨_, _, _, fields, rfl, hfl, _, _⟩ := hh
    have hf' : ∃ fd, fields[f]? = some fd ∧ fd.offset = off' ∧ fd.type = ft := by
      rw [← hfl] at hf
      simp only [List.getElem?_map, Array.getElem?_toList, Option.map_eq_some_iff] at hf
      obtain ⟨fd, h1, h2⟩ := hf
      exact ⟨fd, h1, by cases h2; exact ⟨rfl, rfl⟩⟩
    obtain ⟨fd, h1, rfl, rfl⟩ := hf'
    obtain ⟨j, hj1, hj2, _⟩ := (hT _ _ hte').size
    have hj3 : j.size ≠ 0 := fun e => by rw [← hj2, e] at hz; cases hz
    exact ⟨_, fun w => by simp [execOp, ho, hc, avV, Instr.fieldAt, run_underlying hu, h1, Instr.sureAddr, run_fieldPlace hj1 hj3], h⟩

theorem IDX_elim {i : Int} {n : Nat} {F : Nat → Prop} (h : IDX i n F) : ∃ k : Nat, i = (k : Int) ∧ k < n ∧ F k := h

theorem q_indexAddr {t : TypeId} {x z : Operand} (hT : TOk P T) (ho : o.op = .indexAddr t x z) (h : vcOp P T yl o fr H al K) (hS : Sat y n fr a) : QOk P y o a H al K := by
  simp only [vcOp, ho] at h
  split at h <;> try exact h.elim
  rename_i k iv xv te hi hx hte
  have hci := ev_eval hS hi
  have hcx := ev_eval hS hx
  split at h <;> try exact h.elim
  · rename_i m e b off hd
    split at h <;> try exact h.elim
    rename_i te' hte'
    obtain ⟨k', rfl, hk, h⟩ := h
    obtain ⟨_, _, ti, d, hti, hu, _, _, hh⟩ := hT _ _ hte
    rw [hd] at hh
    obtain ⟨_, rfl⟩ := hh
    obtain ⟨j, hj1, hj2, _⟩ := (hT _ _ hte').size
    refine ⟨_, fun w => ?_, h⟩
    simp [execOp, ho, hci, hcx, avV, Instr.indexAt, asIntOf, run_underlying hu, Instr.sureAddr, run_sizeOf hj1, hj2, add_off, mulS_eq, hk]
  · rename_i e p len cap hd
    split at h <;> try exact h.elim
    rename_i te' hte'
    obtain ⟨k', rfl, hk, h⟩ := h
    obtain ⟨b, off, rfl, h⟩ := NIL_elim h
    obtain ⟨_, _, ti, d, hti, hu, _, _, hh⟩ := hT _ _ hte
    rw [hd] at hh
    obtain ⟨_, rfl, _⟩ := hh
    obtain ⟨j, hj1, hj2, _⟩ := (hT _ _ hte').size
    refine ⟨_, fun w => ?_, h⟩
    simp [execOp, ho, hci, hcx, avV, Instr.indexAt, asIntOf, run_underlying hu, Instr.sureAddr, run_sizeOf hj1, hj2, add_off, mulS_eq, hk]

theorem cellsFrom_spec (H : Hp) (b : Nat) : ∀ (vs : List Value) (o : Nat), HoldsH H (cellsFrom b o vs) ↔ ∀ i v, vs[i]? = some v → rd H b (o + i) = some v
  | [], o => ⟨fun _ i v e => by simp at e, fun _ r hr => by cases hr⟩
  | x :: vs, o => by
    have ih := cellsFrom_spec H b vs (o + 1)
    constructor
    · intro h i v e
      cases i with
      | zero => simp at e; subst e; exact h (b, o, x) (by simp [cellsFrom])
      | succ i =>
        simp at e
        have := ih.1 (fun r hr => h r (by simp [cellsFrom, hr])) i v e
        rwa [show o + (i + 1) = o + 1 + i by omega]
    · intro h r hr
      rcases List.mem_cons.1 hr with rfl | hr
      · exact h 0 x rfl
      · exact ih.2 (fun i v e => by rw [show o + 1 + i = o + (i + 1) by omega]; exact h (i + 1) v e) r hr
theorem q_load {t : TypeId} {x : Operand} (hT : TOk P T) (ho : o.op = .load t x) (h : vcOp P T yl o fr H al K) (hS : Sat y n fr a) : QAny P T y fr o a H al K := by
  simp only [vcOp, ho] at h
  split at h <;> try exact h.elim
  rename_i b off te hx hte
  have hcx := ev_eval hS hx
  obtain ⟨_, _, ti, d, hti, hu, hsz, _, hh⟩ := hT _ _ hte
  split at h <;> try exact h.elim
  · rename_i hd
    split at h <;> try exact h.elim
    rename_i s hs
    rw [hd] at hh
    obtain ⟨_, s', z, hs', hsd, _⟩ := hh
    obtain ⟨v, hv, h⟩ := ldSh_elim h
    refine ⟨_, ?_, fun w hw => ?_, h⟩
    · simp only [ldCells, ho, hx, hte, hd]
      intro r hr
      rw [List.mem_singleton.1 hr]; exact hv
    · simp only [ldCells, ho, hx, hte, hd] at hw
      simp [execOp, ho, hcx, avV, run_load_sc (run_isAgg_sc hu hsd) (hw _ (List.mem_singleton.2 rfl))]
  · rename_i e hd
    split at h <;> try exact h.elim
    rename_i s hs
    rw [hd] at hh
    obtain ⟨_, rfl, _⟩ := hh
    obtain ⟨v, hv, h⟩ := ldSh_elim h
    refine ⟨_, ?_, fun w hw => ?_, h⟩
    · simp only [ldCells, ho, hx, hte, hd]
      intro r hr
      rw [List.mem_singleton.1 hr]; exact hv
    · simp only [ldCells, ho, hx, hte, hd] at hw
      have ha : (isAgg t).run P w = .ok false w := by simp [isAgg, run_underlying hu]
      simp [execOp, ho, hcx, avV, run_load_sc ha (hw _ (List.mem_singleton.2 rfl))]
  · rename_i fs hd
    rw [hd] at hh
    obtain ⟨_, _, hl, fields, rfl, _⟩ := hh
    obtain ⟨vs, hlen, hr, h⟩ := ldAgg_elim h
    refine ⟨_, ?_, fun w hw => ?_, h⟩
    · simp only [ldCells, ho, hx, hte, hd]
      exact (cellsFrom_spec _ _ _ _).2 hr
    · simp only [ldCells, ho, hx, hte, hd] at hw
      have hw : HoldsH (hp w) (cellsFrom b off vs) := hw
      simp [execOp, ho, hcx, avV, run_load_st hu hti (by omega) ((cellsFrom_spec _ _ _ _).1 hw)]

theorem QOk.any (h : QOk P y o a H al K) (hl : ∀ t x, o.op ≠ .load t x) : QAny P T y fr o a H al K := by
  obtain ⟨x, h1, h2⟩ := h
  have e : ldCells T fr o x = [] := by
    unfold ldCells
    split
    · rename_i t p ho; exact absurd ho (hl t p)
    · rfl
  refine ⟨x, ?_, fun w _ => h1 w, h2⟩
  rw [e]; intro r hr; cases hr

theorem run_part {te : TE} {t : TypeId} {cs : List Value} {off : Nat} {v : Value} (ht : TSpec P t te) (h : partL te cs off = some v) :
    (part t ⟨cs⟩ off).run P w = .ok v w := by
  obtain ⟨_, _, ti, d, hti, hu, hsz, _, hh⟩ := ht
  unfold partL at h
  cases hd : te.d with
  | sc =>
    rw [hd] at h hh
    obtain ⟨_, s', z, hs', hsd, _⟩ := hh
    simp only at h
    simp [part, run_isAgg_sc hu hsd, h]
  | sl e =>
    rw [hd] at h hh
    obtain ⟨_, rfl, _⟩ := hh
    have ha : (isAgg t).run P w = .ok false w := by simp [isAgg, run_underlying hu]
    simp only at h
    simp [part, ha, h]
  | st fs =>
    rw [hd] at h hh
    obtain ⟨_, _, hl, fields, rfl, _⟩ := hh
    have ha : (isAgg t).run P w = .ok true w := by simp [isAgg, run_underlying hu]
    simp only [Option.some.injEq] at h
    subst h
    simp only [part, Sem.run_bind, ha, Result.andThen_ok, if_true, run_sizeOf hti, hsz, Sem.run_pure]
    congr 2
    apply Array.ext'
    simp
  | ar m e =>
    rw [hd] at h hh
    obtain ⟨_, rfl⟩ := hh
    have ha : (isAgg t).run P w = .ok true w := by simp [isAgg, run_underlying hu]
    simp only [Option.some.injEq] at h
    subst h
    simp only [part, Sem.run_bind, ha, Result.andThen_ok, if_true, run_sizeOf hti, hsz, Sem.run_pure]
    congr 2
    apply Array.ext'
    simp
  | tup ts => rw [hd] at h; cases h

theorem toList_inj (a b : ByteArray) : a.toList = b.toList ↔ a = b := by
  refine ⟨fun h => ?_, fun h => h ▸ rfl⟩
  rw [ByteArray.toList_eq, ByteArray.toList_eq] at h
  obtain ⟨⟨x⟩⟩ := a
  obtain ⟨⟨y⟩⟩ := b
  have : x = y := h
  rw [this]

theorem bytes_beq (a b : ByteArray) : (a.toList == b.toList) = decide (a = b) := by
  rw [Bool.eq_iff_iff]
  simp [toList_inj]

theorem run_eqVal (hT : TOk P T) : ∀ (d D : Nat) (t : TypeId) (x z : Value) (r : Bool), d ≤ D → eqVal T d t x z = some r → (Op.equalIn D t x z).run P w = .ok r w
  | 0, _, _, _, _, _, _, h => by simp [eqVal] at h
  | d + 1, 0, _, _, _, _, hD, _ => by omega
  | d + 1, D + 1, t, x, z, r, hD, h => by
    simp only [eqVal] at h
    split at h <;> try (cases h; done)
    rename_i te hte
    obtain ⟨_, _, ti, ds, hti, hu, hsz, _, hh⟩ := hT _ _ hte
    split at h <;> try (cases h; done)
    · rename_i k0 k a k' b hd hs
      split at h <;> try (cases h; done)
      rename_i hk _
      subst hk
      simp only [Option.some.injEq] at h
      subst h
      rw [hd] at hh
      obtain ⟨_, s', z', hs', hsd, _⟩ := hh
      rw [hs] at hs'
      cases hs'
      cases ds <;> first | exact absurd (show false = true from hsd) (by decide) | skip
      rw [run_equalIn_int w D t k _ a b hu]
      rfl
    · rename_i a b hd hs
      simp only [Option.some.injEq] at h
      subst h
      rw [hd] at hh
      obtain ⟨_, s', z', hs', hsd, _⟩ := hh
      rw [hs] at hs'
      cases hs'
      cases ds <;> first | exact absurd (show false = true from hsd) (by decide) | skip
      rw [run_equalIn_bool' w D t a b hu]
      rfl
    · rename_i a b hd hs
      simp only [Option.some.injEq] at h
      subst h
      rw [hd] at hh
      obtain ⟨_, s', z', hs', hsd, _⟩ := hh
      rw [hs] at hs'
      cases hs'
      cases ds <;> first | exact absurd (show false = true from hsd) (by decide) | skip
      rw [run_equalIn_string w D t a b hu, bytes_beq]
    · rename_i fs xs zs hd
      rw [hd] at hh
      obtain ⟨_, _, hl, fields, rfl, hfl, hstood, _, hnm⟩ := hh
      have hfo : P.fieldsOf t = fields := by simp [Program.fieldsOf, hu]
      rw [run_equalIn_struct w D t xs zs (by rw [hfo]; exact hu) hstood, hfo]
      clear hfo hu hl hti
      generalize hfd : fields.toList = fds at hfl hnm
      clear hfd hd
      induction fds generalizing fs r with
      | nil =>
        simp only [List.map_nil] at hfl
        subst hfl
        simp only [eqFs, Option.some.injEq] at h
        subst h
        simp [Op.eqFields]
      | cons f fds ih =>
        simp only [List.map_cons] at hfl
        subst hfl
        simp only [eqFs] at h
        split at h <;> try (cases h; done)
        rename_i te1 hte1
        split at h <;> try (cases h; done)
        rename_i va vb hva hvb
        split at h <;> try (cases h; done)
        rename_i u hu'
        have hpa := run_part (w := w) (hT _ _ hte1) hva
        have hpb := run_part (w := w) (hT _ _ hte1) hvb
        have heq := run_eqVal hT d D f.type va vb u (by omega) hu'
        have hn := hnm f (by simp)
        have e1 : (⟨xs.toList⟩ : Array Value) = xs := by simp
        have e2 : (⟨zs.toList⟩ : Array Value) = zs := by simp
        rw [e1] at hpa
        rw [e2] at hpb
        simp only [Op.eqFields, if_pos hn, Sem.run_bind, hpa, hpb, Result.andThen_ok, heq, Sem.run_ite]
        split at h
        · rename_i hnil
          simp only [Option.some.injEq] at h
          subst h
          have : fds = [] := by simpa using hnil
          subst this
          cases u <;> simp [Op.eqFields]
        · rename_i hne
          split at h <;> try (cases h; done)
          rename_i v hv
          simp only [Option.some.injEq] at h
          subst h
          have := ih _ _ hv rfl (fun g hg => hnm g (by simp [hg]))
          cases u
          · simp
          · simp [this]


omit [Sp] in
theorem wrap_in (k : IntKind) {e : Int} (h : k.min ≤ e ∧ e ≤ k.max) : k.wrap e = e := by
  obtain ⟨h1, h2⟩ := h
  cases k <;> simp [IntKind.min, IntKind.max, IntKind.signed, IntKind.bits] at h1 h2 <;> simp [IntKind.wrap, IntKind.signed, IntKind.bits] <;> omega

theorem ARI_run {k : IntKind} {e : Int} {F : Int → Prop} (h : ARI k e F) : F (k.wrap e) := by
  unfold ARI at h
  split at h
  · exact h
  · rw [wrap_in _ h.1]; exact h.2

theorem isSh_spec {t : TypeId} {s : Sh} (hT : TOk P T) (h : isSh T t s = true) : ∃ d, P.underlying t = some d ∧ (shD s d = true ∨ (s = .slice ∧ ∃ e, d = .slice e)) := by
  unfold isSh at h
  split at h <;> try (cases h; done)
  rename_i te hte
  obtain ⟨_, _, ti, d, hti, hu, hsz, _, hh⟩ := hT _ _ hte
  split at h <;> try (cases h; done)
  · rename_i x hd hs'
    have := of_decide_eq_true h
    subst this
    rw [hd] at hh
    obtain ⟨_, s, z, hs, hsd, _⟩ := hh
    rw [hs] at hs'
    cases hs'
    exact ⟨d, hu, .inl hsd⟩
  · rename_i e x hd hs'
    have := of_decide_eq_true h
    subst this
    rw [hd] at hh
    obtain ⟨_, rfl, hs, _⟩ := hh
    rw [hs] at hs'
    cases hs'
    exact ⟨_, hu, .inr ⟨rfl, e, rfl⟩⟩

theorem equalIn_ptr (d : Nat) {t e : TypeId} (p : Option Addr) (h : P.underlying t = some (.pointer e)) : (Op.equalIn (d + 1) t (.pointer p) (.pointer none)).run P w = .ok (decide (p = none)) w := by
  cases p <;> simp [Op.equalIn, run_underlying h]
theorem equalIn_unsafe (d : Nat) {t : TypeId} (p : Option Addr) (h : P.underlying t = some .unsafePointer) : (Op.equalIn (d + 1) t (.pointer p) (.pointer none)).run P w = .ok (decide (p = none)) w := by
  cases p <;> simp [Op.equalIn, run_underlying h, samePointer]
theorem equalIn_sl (d : Nat) {t e : TypeId} (p : Option Addr) (l c l' c' : Nat) (h : P.underlying t = some (.slice e)) : (Op.equalIn (d + 1) t (.slice p l c) (.slice none l' c')).run P w = .ok (decide (p = none)) w := by
  cases p <;> simp [Op.equalIn, run_underlying h]
theorem equalIn_map (d : Nat) {t k e : TypeId} (p : Option Nat) (h : P.underlying t = some (.map k e)) : (Op.equalIn (d + 1) t (.map p) (.map none)).run P w = .ok (decide (p = none)) w := by
  cases p <;> simp [Op.equalIn, run_underlying h]
theorem equalIn_bool (d : Nat) {t : TypeId} (a b : Bool) (h : P.underlying t = some .bool) : (Op.equalIn (d + 1) t (.bool a) (.bool b)).run P w = .ok (decide (a = b)) w := by
  rw [run_equalIn_bool' w d t a b h]; rfl

theorem vcBin_run {op : BinOp} {xt : TypeId} {u v : Value} {F : Value → Prop} (hT : TOk P T) (h : vcBin P T op xt u v F) :
    ∃ r, (∀ w x z, (eqGuard op xt x z u v).run P w = .ok () w) ∧ (∀ w, (binOp op xt u v).run P w = .ok r w) ∧ F r := by
  unfold vcBin at h
  split at h <;> try exact h.elim
  · -- integers
    rename_i k a k' b
    have hg : ∀ w x z, (eqGuard op xt x z (.int k a) (.int k' b)).run P w = .ok () w := fun w x z => by cases op <;> simp [eqGuard]
    split at h
    · exact ⟨_, hg, fun w => by simp [binOp, Op.shift, ishl, Int.not_lt.2 h.1], h.2⟩
    · exact ⟨_, hg, fun w => by simp [binOp, Op.shift, ishr, Int.not_lt.2 h.1], h.2⟩
    · split at h <;> try exact h.elim
      rename_i hn1 hn2 _ hk _
      subst hk
      cases op <;> simp only [ordI] at h <;> try exact absurd rfl (hn1)
      case add => exact ⟨_, hg, fun w => by simp [binOp, Op.intArith], ARI_run h⟩
      case sub => exact ⟨_, hg, fun w => by simp [binOp, Op.intArith], ARI_run h⟩
      case mul => exact ⟨_, hg, fun w => by simp [binOp, Op.intArith], ARI_run h⟩
      case quo => exact ⟨_, hg, fun w => by simp [binOp, Op.intDiv, h.1, wrap_in k h.2.1], h.2.2⟩
      case rem => exact ⟨_, hg, fun w => by simp [binOp, Op.intDiv, h.1], h.2⟩
      case and => exact ⟨_, hg, fun w => by simp [binOp, Op.intBits, iand], h⟩
      case or => exact ⟨_, hg, fun w => by simp [binOp, Op.intBits, ior], h⟩
      case xor => exact ⟨_, hg, fun w => by simp [binOp, Op.intBits, ixor], h⟩
      case andNot => exact ⟨_, hg, fun w => by simp [binOp, Op.intBits, inot], h⟩
      case eql => exact ⟨_, hg, fun w => by simp [binOp, Op.intCmp]; rfl, h⟩
      case neq => exact ⟨_, hg, fun w => by simp [binOp, Op.intCmp]; rw [Bool.eq_iff_iff]; simp, h⟩
      case lss => exact ⟨_, hg, fun w => by simp [binOp, Op.intCmp], h⟩
      case leq => exact ⟨_, hg, fun w => by simp [binOp, Op.intCmp], h⟩
      case gtr => exact ⟨_, hg, fun w => by simp [binOp, Op.intCmp], h⟩
      case geq => exact ⟨_, hg, fun w => by simp [binOp, Op.intCmp], h⟩
  · -- bools
    rename_i a b
    have hg : ∀ w x z, (eqGuard op xt x z (.bool a) (.bool b)).run P w = .ok () w := fun w x z => by cases op <;> simp [eqGuard]
    cases hs : isSh T xt .bool with
    | false => rw [hs] at h; exact h.elim
    | true =>
      rw [hs] at h
      obtain ⟨d, hu, hd⟩ := isSh_spec hT hs
      have hu' : P.underlying xt = some .bool := by
        rcases hd with hd | ⟨hd, _⟩
        · cases d <;> first | exact absurd (show false = true from hd) (by decide) | exact hu
        · cases hd
      have he : ∀ w, (Op.equal xt (.bool a) (.bool b)).run P w = .ok (decide (a = b)) w := fun w => equalIn_bool 9999 a b hu'
      cases op <;> simp only [cond_true] at h
      case eql => exact ⟨_, hg, fun w => by simp [binOp, he], h⟩
      case neq => exact ⟨_, hg, fun w => by simp [binOp, he], h⟩
      all_goals exact h.elim
  · -- strings
    rename_i a b
    have hg : ∀ w x z, (eqGuard op xt x z (.string a) (.string b)).run P w = .ok () w := fun w x z => by cases op <;> simp [eqGuard]
    cases op <;> simp only at h <;> try exact h.elim
    case eql => exact ⟨_, hg, fun w => by simp [binOp, Op.stringOp, bytes_beq], h⟩
    case neq => exact ⟨_, hg, fun w => by simp [binOp, Op.stringOp, bytes_beq], h⟩
    case add => exact ⟨_, hg, fun w => by simp only [binOp]; rw [run_string_add_sum (P := P) (w := w) a b (by omega)], h.2⟩
    case lss => exact ⟨_, hg, fun w => by simp [binOp, Op.stringOp], h⟩
    case gtr => exact ⟨_, hg, fun w => by simp [binOp, Op.stringOp, bytes_beq], h⟩
    case leq => exact ⟨_, hg, fun w => by simp [binOp, Op.stringOp, bytes_beq], h⟩
    case geq => exact ⟨_, hg, fun w => by simp [binOp, Op.stringOp], h⟩
  · -- pointers
    rename_i p q
    cases q with
    | some a' =>
      obtain ⟨r, hr, h⟩ := h
      exact ⟨_, fun w x z => by cases op <;> simp [eqGuard], hr, h⟩
    | none =>
    simp only [ptC] at h
    have hg : ∀ w x z, (eqGuard op xt x z (.pointer p) (.pointer none)).run P w = .ok () w := fun w x z => by cases op <;> simp [eqGuard]
    cases hs : isSh T xt .ptr with
    | false => rw [hs] at h; exact h.elim
    | true =>
      rw [hs] at h
      obtain ⟨d, hu, hd⟩ := isSh_spec hT hs
      have hu' : (∃ e, P.underlying xt = some (.pointer e)) ∨ P.underlying xt = some .unsafePointer := by
        rcases hd with hd | ⟨hd, _⟩
        · cases d <;> first | exact absurd (show false = true from hd) (by decide) | exact .inl ⟨_, hu⟩ | exact .inr hu
        · cases hd
      have he : ∀ w, (Op.equal xt (.pointer p) (.pointer none)).run P w = .ok (decide (p = none)) w := fun w => by
        rcases hu' with ⟨e, hu'⟩ | hu'
        · exact equalIn_ptr 9999 p hu'
        · exact equalIn_unsafe 9999 p hu'
      cases op <;> simp only [cond_true] at h
      case eql => exact ⟨_, hg, fun w => by simp [binOp, he], h⟩
      case neq => exact ⟨_, hg, fun w => by simp [binOp, he], h⟩
      all_goals exact h.elim
  · -- slices
    rename_i p l1 c1 l2 c2
    have hg : ∀ w x z, (eqGuard op xt x z (.slice p l1 c1) (.slice none l2 c2)).run P w = .ok () w := fun w x z => by cases op <;> simp [eqGuard]
    cases hs : isSh T xt .slice with
    | false => rw [hs] at h; exact h.elim
    | true =>
      rw [hs] at h
      obtain ⟨d, hu, hd⟩ := isSh_spec hT hs
      have hu' : ∃ e, P.underlying xt = some (.slice e) := by
        rcases hd with hd | ⟨_, e, rfl⟩
        · cases d <;> exact absurd (show false = true from hd) (by decide)
        · exact ⟨_, hu⟩
      obtain ⟨e, hu'⟩ := hu'
      have he : ∀ w, (Op.equal xt (.slice p l1 c1) (.slice none l2 c2)).run P w = .ok (decide (p = none)) w := fun w => equalIn_sl 9999 p _ _ _ _ hu'
      cases op <;> simp only [cond_true] at h
      case eql => exact ⟨_, hg, fun w => by simp [binOp, he], h⟩
      case neq => exact ⟨_, hg, fun w => by simp [binOp, he], h⟩
      all_goals exact h.elim
  · -- maps
    rename_i p
    have hg : ∀ w x z, (eqGuard op xt x z (.map p) (.map none)).run P w = .ok () w := fun w x z => by cases op <;> simp [eqGuard]
    cases hs : isSh T xt .map with
    | false => rw [hs] at h; exact h.elim
    | true =>
      rw [hs] at h
      obtain ⟨d, hu, hd⟩ := isSh_spec hT hs
      have hu' : ∃ k e, P.underlying xt = some (.map k e) := by
        rcases hd with hd | ⟨hd, _⟩
        · cases d <;> first | exact absurd (show false = true from hd) (by decide) | exact ⟨_, _, hu⟩
        · cases hd
      obtain ⟨k, e, hu'⟩ := hu'
      have he : ∀ w, (Op.equal xt (.map p) (.map none)).run P w = .ok (decide (p = none)) w := fun w => equalIn_map 9999 p hu'
      cases op <;> simp only [cond_true] at h
      case eql => exact ⟨_, hg, fun w => by simp [binOp, he], h⟩
      case neq => exact ⟨_, hg, fun w => by simp [binOp, he], h⟩
      all_goals exact h.elim
  · -- structs
    rename_i xs ys
    have key : ∀ r, eqVal T 8 xt (.agg xs) (.agg ys) = some r → (∀ w x z, (eqGuard op xt x z (.agg xs) (.agg ys)).run P w = .ok () w) ∧ (∀ w, (Op.equal xt (.agg xs) (.agg ys)).run P w = .ok r w) := by
      intro r hr
      refine ⟨fun w x z => ?_, fun w => run_eqVal hT 8 10000 xt _ _ r (by omega) hr⟩
      simp only [eqVal] at hr
      split at hr <;> try (cases hr; done)
      rename_i te hte
      obtain ⟨_, _, ti, d, hti, hu, hsz, _, hh⟩ := hT _ _ hte
      split at hr <;> first | (cases hr; done) | (rename_i h9 _; cases h9; done) | skip
      rename_i fs _ _ hd _ _
      rw [hd] at hh
      obtain ⟨_, _, hl, fields, rfl, hfl, hstood, hgt, hnm⟩ := hh
      exact run_eqGuard_agg w op xt x z xs ys hgt
    split at h <;> try exact h.elim
    · rename_i r hr
      exact ⟨_, (key _ hr).1, fun w => by simp [binOp, (key _ hr).2], h⟩
    · rename_i r hr
      exact ⟨_, (key _ hr).1, fun w => by simp [binOp, (key _ hr).2], h⟩

theorem q_binOp {op : BinOp} {xt yt : TypeId} {x z : Operand} (hT : TOk P T) (ho : o.op = .binOp op xt x z yt) (h : vcOp P T yl o fr H al K) (hS : Sat y n fr a) : QOk P y o a H al K := by
  simp only [vcOp, ho] at h
  split at h <;> try exact h.elim
  rename_i u v hu hv
  obtain ⟨r, hg, hr, h⟩ := vcBin_run hT h
  exact ⟨_, fun w => by simp [execOp, ho, ev_eval hS hu, ev_eval hS hv, hg, hr, avV], h⟩

theorem q_unOp {op : UnOp} {xt : TypeId} {x : Operand} (ho : o.op = .unOp op xt x) (h : vcOp P T yl o fr H al K) (hS : Sat y n fr a) : QOk P y o a H al K := by
  simp only [vcOp, ho] at h
  split at h <;> try exact h.elim
  rename_i u hu
  unfold vcUn at h
  split at h <;> try exact h.elim
  · exact ⟨_, fun w => by simp [execOp, ho, ev_eval hS hu, Op.unary, avV], h⟩
  · rename_i k b
    exact ⟨_, fun w => by simp only [execOp, ho, ev_eval hS hu, Op.unary, Op.intArith, avV]; rfl, ARI_run h⟩
  · rename_i k b
    exact ⟨_, fun w => by simp [execOp, ho, ev_eval hS hu, Op.unary, Op.intBits, ixor, avV], h⟩

end
end Go.V
namespace Go.V
set_option linter.unusedSectionVars false
variable [Sp]
section
variable {P : Program} {T : Tab} {yl : Option YG} {y : Value} {n : Nat} {fr : Fr} {a : Act} {w : World} {o : Oper} {al : Al} {H : Hp} {K : AV → Hp → Al → Prop}

theorem opI_none {x : Option Operand} (h : opI fr x = some none) : x = none := by
  unfold opI at h
  split at h
  · rfl
  · split at h <;> cases h

theorem opI_some {x : Option Operand} {i : Int} (hS : Sat y n fr a) (h : opI fr x = some (some i)) : ∃ k, x.map a.eval = some (.int k i) := by
  unfold opI at h
  split at h
  · cases h
  · split at h
    · rename_i k j hj
      simp only [Option.some.injEq] at h
      subst h
      exact ⟨k, by simp [ev_eval hS hj]⟩
    · cases h

theorem run_sliceBound (k : IntKind) (j y : Nat) (code : BoundsCode) (h : j ≤ y) : (Instr.sliceBound (.int k j) y code).run P w = .ok j w := by
  simp [Instr.sliceBound, asIntOf, h]

theorem BND_run {lo hi : Option Int} {lx hx : Option Operand} {isS : Bool} {len cap : Nat} {F : Nat → Nat → Prop} (hS : Sat y n fr a) (hl : opI fr lx = some lo) (hh : opI fr hx = some hi) (h : BND lo hi len cap F) :
    ∃ j k, (∀ w, (Instr.sliceBounds isS len cap (lx.map a.eval) (hx.map a.eval) none).run P w = .ok (j, k, cap) w) ∧ F j k := by
  unfold BND at h
  split at h
  · have e1 := opI_none hl
    have e2 := opI_none hh
    subst e1; subst e2
    exact ⟨0, len, fun w => by simp [Instr.sliceBounds], h⟩
  · rename_i hv
    obtain ⟨k, rfl, hk, h⟩ := h
    have e1 := opI_none hl
    subst e1
    obtain ⟨kk, e2⟩ := opI_some hS hh
    rw [e2]
    exact ⟨0, k, fun w => by simp [Instr.sliceBounds, run_sliceBound _ _ _ _ hk], h⟩
  · rename_i lv
    obtain ⟨j, rfl, hj, h⟩ := h
    have e2 := opI_none hh
    subst e2
    obtain ⟨kk, e1⟩ := opI_some hS hl
    rw [e1]
    exact ⟨j, len, fun w => by simp [Instr.sliceBounds, run_sliceBound _ _ _ _ hj], h⟩
  · rename_i lv hv
    obtain ⟨j, k, rfl, rfl, hk, hj, h⟩ := h
    obtain ⟨k1, e1⟩ := opI_some hS hl
    obtain ⟨k2, e2⟩ := opI_some hS hh
    rw [e1, e2]
    exact ⟨j, k, fun w => by simp [Instr.sliceBounds, run_sliceBound _ _ _ _ hk, run_sliceBound _ _ _ _ hj], h⟩

theorem BND_run3 {lo : Option Int} {hv : Int} {lx hx mx : Option Operand} {len cap m : Nat} {km : IntKind} {F : Nat → Nat → Prop} (hS : Sat y n fr a) (hl : opI fr lx = some lo) (hh : opI fr hx = some (some hv)) (hm : mx.map a.eval = some (.int km (m : Int))) (hmc : m ≤ cap)
    (h : BND lo (some hv) len m F) :
    ∃ j k, (∀ w, (Instr.sliceBounds true len cap (lx.map a.eval) (hx.map a.eval) (mx.map a.eval)).run P w = .ok (j, k, m) w) ∧ F j k := by
  unfold BND at h
  split at h
  · rename_i hx'; cases hx'
  · rename_i hv' hx'
    cases hx'
    obtain ⟨k, rfl, hk, h⟩ := h
    have e1 := opI_none hl
    subst e1
    obtain ⟨kk, e2⟩ := opI_some hS hh
    rw [e2, hm]
    exact ⟨0, k, fun w => by simp [Instr.sliceBounds, run_sliceBound _ _ _ _ hk, run_sliceBound _ _ _ _ hmc], h⟩
  · rename_i hx'; cases hx'
  · rename_i lv hv' hx'
    cases hx'
    obtain ⟨j, k, rfl, rfl, hk, hj, h⟩ := h
    obtain ⟨k1, e1⟩ := opI_some hS hl
    obtain ⟨k2, e2⟩ := opI_some hS hh
    rw [e1, e2, hm]
    exact ⟨j, k, fun w => by simp [Instr.sliceBounds, run_sliceBound _ _ _ _ hk, run_sliceBound _ _ _ _ hj, run_sliceBound _ _ _ _ hmc], h⟩

theorem movA_eq (p : Option Addr) (j s m : Nat) : (if m = j then p else p.map (·.add (j * s))) = movA p j s m := by
  cases p with
  | none => by_cases h : m = j <;> simp [h, movA]
  | some ad =>
    obtain ⟨b, o, sp⟩ := ad
    cases sp with
    | none => by_cases h : m = j <;> simp [h, movA, add_off, mulS_eq]
    | some x => by_cases h : m = j <;> simp [h, movA]

theorem isSh_str {t : TypeId} (hT : TOk P T) (h : isSh T t .str = true) : P.underlying t = some .string := by
  obtain ⟨d, hu, hd⟩ := isSh_spec hT h
  rcases hd with hd | ⟨hd, _⟩
  · cases d <;> first | exact absurd (show false = true from hd) (by decide) | exact hu
  · cases hd

theorem q_slice {t : TypeId} {x : Operand} {lo hi mx : Option Operand} (hT : TOk P T) (ho : o.op = .slice t x lo hi mx) (h : vcOp P T yl o fr H al K) (hS : Sat y n fr a) : QOk P y o a H al K := by
  simp only [vcOp, ho] at h
  split at h <;> try exact h.elim
  rename_i xv hx
  have hcx := ev_eval hS hx
  unfold vcSlice at h
  split at h <;> try exact h.elim
  · rename_i te p len cap lo' hi' hte hlo hhi hmx
    split at h <;> try exact h.elim
    rename_i e hd
    split at h <;> try exact h.elim
    rename_i te' hte'
    obtain ⟨_, _, ti, d, hti, hu, hsz, _, hh⟩ := hT _ _ hte
    rw [hd] at hh
    obtain ⟨_, rfl, _⟩ := hh
    obtain ⟨i2, hi2, hs2, _⟩ := (hT _ _ hte').size
    have e3 := opI_none hmx
    subst e3
    obtain ⟨j, k, hr, h⟩ := BND_run (P := P) (isS := true) hS hlo hhi h
    refine ⟨_, fun w => ?_, h⟩
    simp [execOp, ho, hcx, avV, Instr.sliceAt, run_underlying hu, Instr.slice, hr, run_sizeOf hi2, hs2, movA_eq]
  · rename_i te p len cap lo' hv mv hte hlo hhi hmx
    split at h <;> try exact h.elim
    rename_i e hd
    split at h <;> try exact h.elim
    rename_i te' hte'
    obtain ⟨_, _, ti, d, hti, hu, hsz, _, hh⟩ := hT _ _ hte
    rw [hd] at hh
    obtain ⟨_, rfl, _⟩ := hh
    obtain ⟨i2, hi2, hs2, _⟩ := (hT _ _ hte').size
    obtain ⟨m', rfl, hm', h⟩ := h
    obtain ⟨km, hmx'⟩ := opI_some hS hmx
    obtain ⟨j, k, hr, h⟩ := BND_run3 (P := P) (cap := cap) hS hlo hhi hmx' hm' h
    refine ⟨_, fun w => ?_, h⟩
    simp [execOp, ho, hcx, avV, Instr.sliceAt, run_underlying hu, Instr.slice, hr, run_sizeOf hi2, hs2, movA_eq]
  · rename_i te s lo' hi' hte hlo hhi hmx
    cases hs : isSh T t .str with
    | false => rw [hs] at h; exact h.elim
    | true =>
      rw [hs] at h
      simp only [cond_true] at h
      have hu' := isSh_str hT hs
      have e3 := opI_none hmx
      subst e3
      obtain ⟨j, k, hr, h⟩ := BND_run (P := P) (isS := false) hS hlo hhi h
      refine ⟨_, fun w => ?_, h⟩
      simp [execOp, ho, hcx, avV, Instr.sliceAt, run_underlying hu', Instr.slice, hr]
  · rename_i te b off lo' hi' hte hlo hhi hmx
    split at h <;> try exact h.elim
    rename_i m e hd
    split at h <;> try exact h.elim
    rename_i te' hte'
    obtain ⟨_, _, ti, d, hti, hu, hsz, _, hh⟩ := hT _ _ hte
    rw [hd] at hh
    obtain ⟨_, rfl⟩ := hh
    obtain ⟨i2, hi2, hs2, _⟩ := (hT _ _ hte').size
    have e3 := opI_none hmx
    subst e3
    obtain ⟨j, k, hr, h⟩ := BND_run (P := P) (isS := false) hS hlo hhi h
    refine ⟨_, fun w => ?_, h⟩
    have hmv := movA_eq (some ⟨b, off, none⟩) j te'.size m
    simp [execOp, ho, hcx, avV, Instr.sliceAt, run_underlying hu, Instr.sureAddr, hr, run_sizeOf hi2, hs2]
    rw [← hmv]
    split <;> rfl

theorem q_field {t : TypeId} {x : Operand} {f : Nat} (hT : TOk P T) (ho : o.op = .field t x f) (h : vcOp P T yl o fr H al K) (hS : Sat y n fr a) : QOk P y o a H al K := by
  simp only [vcOp, ho] at h
  split at h <;> try exact h.elim
  rename_i cs te hx hte
  split at h <;> try exact h.elim
  rename_i fs hfs
  split at h <;> try exact h.elim
  rename_i off ft hf
  split at h <;> try exact h.elim
  rename_i te' hte'
  split at h <;> try exact h.elim
  rename_i v hv
  have hc := ev_eval hS hx
  obtain ⟨_, _, i, d, hi, hu, _, _, hh⟩ := hT _ _ hte
  rw [hfs] at hh
  obtain ⟨_, _, _, fields, rfl, hfl, _, _⟩ := hh
  have hf' : ∃ fd, fields[f]? = some fd ∧ fd.offset = off ∧ fd.type = ft := by
    rw [← hfl] at hf
    simp only [List.getElem?_map, Array.getElem?_toList, Option.map_eq_some_iff] at hf
    obtain ⟨fd, h1, h2⟩ := hf
    exact ⟨fd, h1, by cases h2; exact ⟨rfl, rfl⟩⟩
  obtain ⟨fd, h1, rfl, rfl⟩ := hf'
  have hp := fun w : World => run_part (w := w) (hT _ _ hte') hv
  have e1 : (⟨cs.toList⟩ : Array Value) = cs := by simp
  rw [e1] at hp
  exact ⟨_, fun w => by simp [execOp, ho, hc, avV, Instr.field, run_underlying hu, h1, asAgg, hp], h⟩

theorem q_index {t : TypeId} {x z : Operand} (hT : TOk P T) (ho : o.op = .index t x z) (h : vcOp P T yl o fr H al K) (hS : Sat y n fr a) : QOk P y o a H al K := by
  simp only [vcOp, ho] at h
  split at h <;> try exact h.elim
  rename_i s k iv hx hz
  have hcx := ev_eval hS hx
  have hcz := ev_eval hS hz
  cases hs : isSh T t .str with
  | false => rw [hs] at h; exact h.elim
  | true =>
    rw [hs] at h
    have hu' := isSh_str hT hs
    obtain ⟨j, rfl, hj, h⟩ := h
    refine ⟨_, fun w => ?_, h⟩
    have hb : s[j]? = some (s.data.toList.getD j 0) := by
      have hj' : j < s.data.toList.length := by simpa using hj
      have : s[j]? = some s[j] := by simp [hj]
      rw [this, List.getD_eq_getElem?_getD, List.getElem?_eq_getElem hj']
      rfl
    simp [execOp, ho, hcx, hcz, avV, Instr.index, asIntOf, run_underlying hu', hb]

theorem q_extract {x : Operand} {i : Nat} (ho : o.op = .extract x i) (h : vcOp P T yl o fr H al K) (hS : Sat y n fr a) : QOk P y o a H al K := by
  simp only [vcOp, ho] at h
  split at h <;> try exact h.elim
  rename_i vs hx
  split at h <;> try exact h.elim
  rename_i v hv
  have hc := ev_eval hS hx
  rw [Array.getElem?_toList] at hv
  exact ⟨.v v, fun w => by simp [execOp, ho, hc, avV, Instr.extract, hv], liftX_elim h⟩

theorem q_makeFunc {fn : Fn} {f c : Array Operand} (ho : o.op = .makeFunc fn f c) (h : vcOp P T yl o fr H al K) (hS : Sat y n fr a) : QOk P y o a H al K := by
  simp only [vcOp, ho] at h
  split at h <;> try exact h.elim
  rename_i fs cs hf hc
  exact ⟨_, fun w => by simp [execOp, ho, avV, Instr.makeFunc, evsA_eval hS hf, evsA_eval hS hc], h⟩

theorem q_move {x : Operand} (ho : o.op = .move x ∨ o.op = .assign x) (h : vcOp P T yl o fr H al K) (hS : Sat y n fr a) : QOk P y o a H al K := by
  rcases ho with ho | ho
  all_goals
    simp only [vcOp, ho] at h
    split at h <;> try exact h.elim
    rename_i v hv
    exact ⟨v, fun w => by simp [execOp, ho, evA_eval hS hv], h⟩

theorem vcLen_run {t ty : TypeId} {ts : List TypeId} {x : Value} {xs : List Value} {F : Value → Prop} (hT : TOk P T) (h : vcLen T t x F) :
    ∃ v, (∀ w, (Builtin.len_ ⟨t :: ts⟩ ty ⟨x :: xs⟩).run P w = .ok v w) ∧ F v := by
  unfold vcLen at h
  split at h <;> try exact h.elim
  · rename_i te p l c hte
    split at h <;> try exact h.elim
    rename_i e hd
    obtain ⟨_, _, ti, d, hti, hu, hsz, _, hh⟩ := hT _ _ hte
    rw [hd] at hh
    obtain ⟨_, rfl, _⟩ := hh
    exact ⟨_, fun w => by simp [Builtin.len_, run_underlying hu, goInt], h⟩
  · rename_i te s hte
    cases hs : isSh T t .str with
    | false => rw [hs] at h; exact h.elim
    | true =>
      rw [hs] at h
      have hu' := isSh_str hT hs
      exact ⟨_, fun w => by simp [Builtin.len_, run_underlying hu', goInt], h⟩
  · rename_i te _ hte _ _
    split at h <;> try exact h.elim
    rename_i m e hd
    obtain ⟨_, _, ti, d, hti, hu, hsz, _, hh⟩ := hT _ _ hte
    rw [hd] at hh
    obtain ⟨_, rfl⟩ := hh
    exact ⟨_, fun w => by simp [Builtin.len_, run_underlying hu, goInt], h⟩

theorem foldI_min {k : IntKind} : ∀ {l : List Value} {b c : Int}, foldI min b l = some c → (l.foldlM Builtin.min2 (.int k b)).run P w = .ok (.int k c) w
  | [], b, c, h => by simp only [foldI, Option.some.injEq] at h; subst h; simp
  | v :: l, b, c, h => by
    cases v <;> simp only [foldI, reduceCtorEq] at h
    rename_i k' d
    have e : (if d < b then d else b) = min b d := by split <;> omega
    simp only [List.foldlM_cons, Builtin.min2, e, Sem.run_bind, Sem.run_pure, Result.andThen_ok]
    exact foldI_min h

theorem foldI_max {k : IntKind} : ∀ {l : List Value} {b c : Int}, foldI max b l = some c → (l.foldlM Builtin.max2 (.int k b)).run P w = .ok (.int k c) w
  | [], b, c, h => by simp only [foldI, Option.some.injEq] at h; subst h; simp
  | v :: l, b, c, h => by
    cases v <;> simp only [foldI, reduceCtorEq] at h
    rename_i k' d
    have e : (if d > b then d else b) = max b d := by split <;> omega
    simp only [List.foldlM_cons, Builtin.max2, e, Sem.run_bind, Sem.run_pure, Result.andThen_ok]
    exact foldI_max h

theorem ex_builtin {c : Call} {b : Builtin} {args : List Value} {v : Value} {w' : World} (ho : o.op = .call c) (hc : c.callee = .builtin b) (ha : c.args.map a.eval = ⟨args⟩)
    (hr : ∀ cs, (Go.builtin b c.argTypes o.type cs ⟨args⟩).run P w = .ok (.value v) w') : (execOp a.eval o).run P w = .ok (.value v) w' := by
  simp only [execOp, ho, resolve, hc, ha]
  simp only [pure_bind, invoke]
  exact hr _

theorem q_builtin {c : Call} {b : Builtin} (hT : TOk P T) (ho : o.op = .call c) (hc : c.callee = .builtin b) (hb : b = .len ∨ b = .cap ∨ b = .min ∨ b = .max) (hm : b = .len → c.argTypes.toList.any Sp.mp = false) (h : vcOp P T yl o fr H al K) (hS : Sat y n fr a) : QOk P y o a H al K := by
  simp only [vcOp, ho, hc] at h
  split at h <;> try exact h.elim
  rename_i args hargs
  have ha := evsA_eval hS hargs
  have hts : c.argTypes = ⟨c.argTypes.toList⟩ := by simp
  generalize c.argTypes.toList = ts at h hts hm
  rcases hb with rfl | rfl | rfl | rfl
  · simp only [vcBuiltin, hm rfl, cond_false, bLen] at h
    split at h <;> try exact h.elim
    rename_i t r x xs
    obtain ⟨v, hv, h⟩ := vcLen_run (P := P) (ty := o.type) (ts := r) (xs := xs) hT h
    exact ⟨_, fun w => ex_builtin ho hc ha (fun cs => by simp only [builtin, hts, Sem.run_bind, hv]; rfl), h⟩
  · simp only [vcBuiltin, bCap] at h
    split at h <;> try exact h.elim
    split at h <;> try exact h.elim
    rename_i te hte
    split at h <;> try exact h.elim
    rename_i e hd
    obtain ⟨_, _, ti, d, hti, hu, hsz, _, hh⟩ := hT _ _ hte
    rw [hd] at hh
    obtain ⟨_, rfl, _⟩ := hh
    exact ⟨_, fun w => ex_builtin ho hc ha (fun cs => by simp [builtin, hts, Builtin.cap_, run_underlying hu, goInt]; rfl), h⟩
  · simp only [vcBuiltin, bFold] at h
    split at h <;> try exact h.elim
    split at h <;> try exact h.elim
    rename_i m hm
    exact ⟨_, fun w => ex_builtin ho hc ha (fun cs => by simp only [builtin, Builtin.min_, Sem.run_bind]; rw [foldI_min hm]; rfl), h⟩
  · simp only [vcBuiltin, bFold] at h
    split at h <;> try exact h.elim
    split at h <;> try exact h.elim
    rename_i m hm
    exact ⟨_, fun w => ex_builtin ho hc ha (fun cs => by simp only [builtin, Builtin.max_, Sem.run_bind]; rw [foldI_max hm]; rfl), h⟩

/-- Every quiet operation. -/
theorem q_any (hT : TOk P T) (hq : quietOp o.op = true) (h : vcOp P T yl o fr H al K) (hS : Sat y n fr a) : QAny P T y fr o a H al K := by
  have nl : ∀ {X}, o.op = X → (∀ t x, X ≠ .load t x) → ∀ t x, o.op ≠ .load t x := fun e h t x e' => h t x (e.symm.trans e')
  cases ho : o.op <;> rw [ho] at hq <;> try (cases hq; done)
  case move => exact (q_move (.inl ho) h hS).any (nl ho (by simp))
  case assign => exact (q_move (.inr ho) h hS).any (nl ho (by simp))
  case pick => exact (q_pick ho h hS).any (nl ho (by simp))
  case nilCheck => exact (q_nilCheck ho h hS).any (nl ho (by simp))
  case fieldAddr => exact (q_fieldAddr hT ho h hS).any (nl ho (by simp))
  case indexAddr => exact (q_indexAddr hT ho h hS).any (nl ho (by simp))
  case load => exact q_load hT ho h hS
  case binOp => exact (q_binOp hT ho h hS).any (nl ho (by simp))
  case unOp => exact (q_unOp ho h hS).any (nl ho (by simp))
  case slice => exact (q_slice hT ho h hS).any (nl ho (by simp))
  case field => exact (q_field hT ho h hS).any (nl ho (by simp))
  case index => exact (q_index hT ho h hS).any (nl ho (by simp))
  case extract => exact (q_extract ho h hS).any (nl ho (by simp))
  case makeFunc => exact (q_makeFunc ho h hS).any (nl ho (by simp))
  case call c =>
    cases hc : c.callee with
    | builtin b =>
      have hm : b = .len → c.argTypes.toList.any Sp.mp = false := fun e => by
        subst e
        obtain ⟨ce, ar, at'⟩ := c
        simp only at hc
        subst hc
        simpa [quietOp] using hq
      refine (q_builtin hT ho hc ?_ hm h hS).any (nl ho (by simp))
      obtain ⟨ce, ar, at'⟩ := c
      simp only at hc
      subst hc
      cases b <;> first | (cases hq; done) | simp
    | value f => obtain ⟨ce, ar, at'⟩ := c; simp only at hc; subst hc; cases hq
    | invoke f m => obtain ⟨ce, ar, at'⟩ := c; simp only at hc; subst hc; cases hq

theorem q_all (hT : TOk P T) (hq : quietOp o.op = true) (h : vcOp P T yl o fr (hp w) al K) (hS : Sat y n fr a) :
    ∃ x, (execOp a.eval o).run P w = .ok (.value (avV y x)) w ∧ K x (hp w) al :=
  let ⟨x, h1, h2, h3⟩ := q_any hT hq h hS
  ⟨x, h2 w h1, h3⟩

end
end Go.V
namespace Go.V
set_option linter.unusedSectionVars false
variable [Sp]
section
variable {P : Program} {T : Tab} {yl : Option YG} {y : Value} {n : Nat} {fr : Fr} {a : Act} {w : World} {o : Oper} {al : Al} {K : AV → Hp → Al → Prop}

/-- What an operation that is no call comes to. -/
abbrev EOk (P : Program) (y : Value) (o : Oper) (a : Act) (w : World) (al : Al) (K : AV → Hp → Al → Prop) : Prop :=
  ∃ x w', ((execOp a.eval o).run P w = .ok (.value (avV y x)) w' ∨ ((execOp a.eval o).run P w = .ok .skip w' ∧ avV y x = undef)) ∧ Ge 0 w w' ∧ K x (hp w') al

theorem isCell_one {v : Value} (h : isCell v = true) : v.oneCell' = true := by cases v <;> simp_all [isCell, Value.oneCell']
theorem isCell_cells {v : Value} (h : isCell v = true) : v.cells = #[v] := by cases v <;> simp_all [isCell, Value.cells]

theorem some_of_isSome {α : Type} {x : Option α} (h : x.isSome = true) : ∃ v, x = some v := Option.isSome_iff_exists.1 h

theorem run_store_rd {b off : Nat} {v : Value} (h : (rd (hp w) b off).isSome = true) (hv : isCell v = true) (m : Mode) :
    (store ⟨b, off, none⟩ v m).run P w = .ok () (w.setCell ⟨b, off, none⟩ v) := by
  obtain ⟨u, hu⟩ := some_of_isSome h
  rw [run_store P w _ v m (isCell_one hv), cell_of_rd hu]
  simp [frozen_of_rd hu]

theorem nmO_cell {v : Value} (h : isCell v = true) : nmO v = some v := by cases v <;> first | rfl | cases h
theorem rd_wr_isSome {H : Hp} {b o b' o' : Nat} {v : Value} (hv : isCell v = true) (h : (rd H b' o').isSome = true) : (rd (wr H b o v) b' o').isSome = true := by
  unfold rd wr at *
  by_cases e : b' = b
  · subst e
    simp only [if_true]
    cases hb : H b' with
    | none => simp [hb] at h
    | some k =>
      rw [hb] at h
      simp only [Option.bind_some, Option.map_some] at h ⊢
      rw [List.getElem?_set]
      by_cases ho : o = o'
      · subst ho
        simp only [if_true]
        have hl : o < k.length := by
          rcases Nat.lt_or_ge o k.length with h' | h'
          · exact h'
          · rw [List.getElem?_eq_none h'] at h; cases h
        simp [hl, nmO_cell hv]
      · rw [if_neg ho]; exact h
  · simpa [e] using h

theorem storeCells_run {b o : Nat} : ∀ (vs : List Value) (i : Nat) (w : World), (∀ j, j < vs.length → (rd (hp w) b (o + i + j)).isSome = true) → (∀ v ∈ vs, isCell v = true) →
    ∃ w', (storeCells ⟨b, o, none⟩ vs i).run P w = .ok () w' ∧ Ge 0 w w' ∧ hp w' = wrN (hp w) b (o + i) vs
  | [], i, w, _, _ => ⟨w, by simp [storeCells], Ge.refl _ _, rfl⟩
  | v :: vs, i, w, h, hv => by
    have h0 : (rd (hp w) b (o + i)).isSome = true := by simpa using h 0 (by simp)
    obtain ⟨u, hu⟩ := some_of_isSome h0
    have e1 := hp_setCell (v := v) hu (isCell_notT (hv v (by simp)))
    obtain ⟨w', hr, hg, hh⟩ := storeCells_run vs (i + 1) (w.setCell ⟨b, o + i, none⟩ v)
      (fun j hj => by rw [e1]; exact rd_wr_isSome (hv v (by simp)) (by have := h (j + 1) (by simpa using hj); rwa [show o + i + (j + 1) = o + (i + 1) + j by omega] at this)) (fun x hx => hv x (by simp [hx]))
    refine ⟨w', ?_, (Ge.setCell v hu).trans hg, ?_⟩
    · simp [storeCells, add_off, run_store_rd h0 (hv v (by simp)), hr]
    · rw [hh, e1]; simp only [wrN]; rfl

theorem stAll_run {b o : Nat} {KK : Hp → Prop} : ∀ (vs : List Value) (i : Nat) (w : World), stAll b (o + i) vs (hp w) KK → (∀ v ∈ vs, isCell v = true) →
    ∃ w', (storeCells ⟨b, o, none⟩ vs i).run P w = .ok () w' ∧ Ge 0 w w' ∧ KK (hp w')
  | [], i, w, h, _ => ⟨w, by simp [storeCells], Ge.refl _ _, h⟩
  | v :: vs, i, w, h, hv => by
    obtain ⟨h0, h⟩ := h
    obtain ⟨u, hu⟩ := some_of_isSome h0
    have e1 := hp_setCell (v := v) hu (isCell_notT (hv v (by simp)))
    rw [← e1] at h
    obtain ⟨w', hr, hg, hk⟩ := stAll_run vs (i + 1) (w.setCell ⟨b, o + i, none⟩ v) h (fun x hx => hv x (by simp [hx]))
    exact ⟨w', by simp [storeCells, add_off, run_store_rd h0 (hv v (by simp)), hr], (Ge.setCell v hu).trans hg, hk⟩

theorem e_store {t : TypeId} {x v : Operand} (hT : TOk P T) (ho : o.op = .store t x v) (h : vcOp P T yl o fr (hp w) al K) (hS : Sat y n fr a) : EOk P y o a w al K := by
  simp only [vcOp, ho] at h
  split at h <;> try exact h.elim
  rename_i b off vv te hx hv hte
  have hcx := ev_eval hS hx
  have hcv := ev_eval hS hv
  have hsize := (hT _ _ hte).size
  obtain ⟨i, hi, hs, _⟩ := hsize
  have key : ∀ (h1 : isCell vv = true) (h2 : te.size = 1) (h : ST (hp w) b off vv fun H' => K (AV.v undef) H' al), EOk P y o a w al K := by
    intro h1 h2 h
    obtain ⟨h0, h⟩ := h
    obtain ⟨u, hu⟩ := some_of_isSome h0
    refine ⟨.v undef, w.setCell ⟨b, off, none⟩ vv, .inr ⟨?_, rfl⟩, Ge.setCell vv hu, by rw [hp_setCell hu (isCell_notT h1)]; exact h⟩
    simp [execOp, ho, hcx, hcv, Instr.storeAt, Instr.sureAddr, storeVar, isCell_cells h1, run_sizeOf hi, hs, h2, storeCells, add_off, run_store_rd h0 h1]
  obtain ⟨_, _, ti, d, hti, hu, hsz, _, hh⟩ := hT _ _ hte
  split at h <;> try exact h.elim
  · rename_i hd
    rw [hd] at hh
    cases hc : isCell vv with
    | false => rw [hc] at h; exact h.elim
    | true => rw [hc] at h; exact key hc hh.1 h
  · rename_i e hd
    rw [hd] at hh
    cases hc : isCell vv with
    | false => rw [hc] at h; exact h.elim
    | true => rw [hc] at h; exact key hc hh.1 h
  · rename_i fs hd
    split at h <;> try exact h.elim
    rename_i cs
    cases hc : Nat.beq cs.toList.length te.size && cs.toList.all isCell with
    | false => rw [hc] at h; exact h.elim
    | true =>
      rw [hc] at h
      simp only [Bool.and_eq_true, List.all_eq_true] at hc
      obtain ⟨hc1, hc2⟩ := hc
      have hc1 := Nat.eq_of_beq_eq_true hc1
      obtain ⟨w', hr, hg, hk⟩ := stAll_run (P := P) (o := off) cs.toList 0 w h hc2
      refine ⟨.v undef, w', .inr ⟨?_, rfl⟩, hg, hk⟩
      have hcs : cs.size = te.size := by simpa using hc1
      simp [execOp, ho, hcx, hcv, Instr.storeAt, Instr.sureAddr, storeVar, Value.cells, run_sizeOf hi, hs, hcs, hr]

theorem zero_run {t : TypeId} {te : TE} (hT : TSpec P t te) (hn : ∀ ts, te.d ≠ .tup ts) : ∃ z, (zeroValue t).run P w = .ok z w ∧ z.cells.toList = te.zc ∧ (∃ i, P.info? t = some i ∧ i.zero = some z) := by
  obtain ⟨_, _, ti, d, hti, hu, hsz, _, hh⟩ := hT
  cases hd : te.d <;> rw [hd] at hh
  case sc =>
    obtain ⟨_, s, z, _, _, hz, hi, h1⟩ := hh
    refine ⟨z, by simp [zeroValue, run_typeInfo hti, hi], ?_, ti, hti, hi⟩
    rw [hz]
    cases z <;> simp_all [Value.cells, Value.oneCell']
  case sl e =>
    obtain ⟨_, _, _, hz, hi⟩ := hh
    exact ⟨_, by simp only [zeroValue, Sem.run_bind, run_typeInfo hti, Result.andThen_ok, hi, Sem.run_pure], by rw [hz]; rfl, ti, hti, hi⟩
  case st fs =>
    obtain ⟨hi, _⟩ := hh
    exact ⟨_, by simp only [zeroValue, Sem.run_bind, run_typeInfo hti, Result.andThen_ok, hi, Sem.run_pure], rfl, ti, hti, hi⟩
  case ar m e =>
    obtain ⟨hi, _⟩ := hh
    exact ⟨_, by simp only [zeroValue, Sem.run_bind, run_typeInfo hti, Result.andThen_ok, hi, Sem.run_pure], rfl, ti, hti, hi⟩
  case tup ts => exact absurd hd (hn ts)

theorem NEW_run {c : Array Value} {t : TypeId} {F : Nat → Hp → Prop} (hc : c.toList.all notT = true) (h : NEW (hp w) (mkl c.toList (mkT t)) F) : F w.heap.size (hp (w.alloc (.cells c t))) := by
  rw [hp_alloc c t hc]
  exact h _ hp_fresh
theorem TSpec.mkT {t : TypeId} {te : TE} (h : TSpec P t te) : te.tl = Go.V.mkT t := h.1
theorem TSpec.nt {t : TypeId} {te : TE} (h : TSpec P t te) : te.zc.all notT = true := h.2.1
theorem rep_notT {m : Nat} {zc : List Value} (h : zc.all notT = true) : (rep m zc).all notT = true := by
  rw [List.all_eq_true] at h ⊢
  intro x hx
  unfold rep at hx
  split at hx
  · exact h x (by rw [(List.mem_replicate.1 hx).2]; simp)
  · obtain ⟨l, hl, hx⟩ := List.mem_flatten.1 hx
    rw [(List.mem_replicate.1 hl).2] at hx
    exact h x hx

theorem e_alloc {t : TypeId} (hT : TOk P T) (ho : o.op = .alloc t) (h : vcOp P T yl o fr (hp w) al K) : EOk P y o a w al K := by
  simp only [vcOp, ho] at h
  split at h <;> try exact h.elim
  rename_i te hte
  have hn : ∀ ts, te.d ≠ .tup ts := fun ts e => by rw [e] at h; exact h
  have h : NEW (hp w) (mkl te.zc te.tl) fun b H' => K (.v (.pointer (some ⟨b, 0, none⟩))) H' al := by
    split at h
    · exact h.elim
    · exact h
  obtain ⟨z, hz, hzc, _⟩ := zero_run (w := w) (hT _ _ hte) hn
  have hnt := (hT _ _ hte).nt
  rw [(hT _ _ hte).mkT, ← hzc] at h
  rw [← hzc] at hnt
  refine ⟨_, w.alloc (.cells z.cells t), .inl ?_, Ge.alloc _ _, NEW_run hnt h⟩
  simp [execOp, ho, Instr.alloc, hz, newVar, newRow, avV]

theorem e_box {t : TypeId} {v : Operand} (hY : ∀ G, yl = some G → y = yv G.L) (ho : o.op = .box t v) (h : vcOp P T yl o fr (hp w) al K) (hS : Sat y n fr a) : EOk P y o a w al K := by
  simp only [vcOp, ho] at h
  have ⟨vv, hcv, hnt, h⟩ : ∃ vv, a.eval v = vv ∧ (cellsL vv).all notT = true ∧ NEW (hp w) (mkl (cellsL vv) (mkT t)) fun b H' => K (.v (.pointer (some ⟨b, 0, none⟩))) H' al := by
    split at h <;> try exact h.elim
    · rename_i vv hv
      cases hnt : (cellsL vv).all notT with
      | false => rw [hnt] at h; exact h.elim
      | true => rw [hnt] at h; exact ⟨vv, evA_eval hS hv, hnt, h⟩
    · rename_i hv
      split at h <;> try exact h.elim
      rename_i G
      refine ⟨yv G.L, ?_, rfl, h⟩
      have := evA_eval hS hv
      rw [this]; exact hY G rfl
  have e : cellsL vv = vv.cells.toList := by cases vv <;> rfl
  rw [e] at h hnt
  refine ⟨_, w.alloc (.cells vv.cells t), .inl ?_, Ge.alloc _ _, NEW_run hnt h⟩
  simp [execOp, ho, hcv, Instr.box, newVar, newRow, avV]

theorem putAt_eq : ∀ (vs : List Value) (k off : Nat) (cs : Array Value), off + k + vs.length ≤ cs.size → ((vs.zipIdx k).foldl (fun (cs : Array Value) (p : Value × Nat) => cs.setIfInBounds (off + p.2) p.1) cs).toList = fillL.putAt cs.toList (off + k) vs
  | [], k, off, cs, _ => rfl
  | v :: vs, k, off, cs, h => by
    simp only [List.zipIdx_cons, List.foldl_cons, fillL.putAt]
    simp only [List.length_cons] at h
    rw [putAt_eq vs (k + 1) off _ (by simp; omega)]
    simp
    rfl

theorem cellsL_eq (v : Value) : cellsL v = v.cells.toList := by cases v <;> rfl

theorem fill_eq {place : Nat → Option (Nat × Nat)} : ∀ (ps : List (Nat × Value)) (zc cs : List Value), fillL place zc ps = some cs → Instr.fill place ⟨zc⟩ ps = some ⟨cs⟩
  | [], zc, cs, h => by simp only [fillL, Option.some.injEq] at h; subst h; rfl
  | (i, v) :: ps, zc, cs, h => by
    simp only [fillL] at h
    cases hp : place i with
    | none => rw [hp] at h; cases h
    | some q =>
      obtain ⟨off, size⟩ := q
      rw [hp] at h
      simp only at h
      cases hc : Nat.beq (cellsL v).length size && Nat.ble (off + size) zc.length with
      | false => rw [hc] at h; cases h
      | true =>
        rw [hc] at h
        simp only [cond_true] at h
        simp only [Bool.and_eq_true, Nat.ble_eq] at hc
        obtain ⟨h1, h2⟩ := hc
        have h1 := Nat.eq_of_beq_eq_true h1
        rw [cellsL_eq] at h h1
        simp only [Array.length_toList] at h1
        have e1 : v.cells.size = size := h1
        simp only [Instr.fill, hp, e1]
        have hb : ¬ (off + size > (⟨zc⟩ : Array Value).size) := by
          show ¬ (off + size > zc.length)
          omega
        simp only [ne_eq, not_true_eq_false, decide_false, Bool.false_or, decide_eq_true_eq, if_neg hb]
        have := fill_eq ps _ cs h
        rw [← this]
        congr 1
        apply Array.ext'
        have := putAt_eq v.cells.toList 0 off ⟨zc⟩ (by simp [e1]; omega)
        simp only [Nat.add_zero] at this
        rw [← this, ← Array.foldl_toList]
        simp

theorem evParts_eval (hS : Sat y n fr a) : ∀ {l : List (Nat × Operand)} {ps : List (Nat × Value)}, evParts fr l = some ps → l.map (fun p => (p.1, a.eval p.2)) = ps
  | [], ps, h => by simp only [evParts, Option.some.injEq] at h; subst h; rfl
  | (i, x) :: r, ps, h => by
    simp only [evParts] at h
    split at h
    · rename_i v l hv hl
      simp only [Option.some.injEq] at h
      subst h
      simp [ev_eval hS hv, evParts_eval hS hl]
    · cases h

theorem sizesOf_eq (hT : TOk P T) : ∀ {l : List (Nat × TypeId)} {pl : List (Nat × Nat)} (fs : List Field), sizesOf T l = some pl → fs.map (fun f => (f.offset, f.type)) = l → fs.mapM (fun f => (P.info? f.type).map fun i => (f.offset, i.size)) = some pl
  | [], pl, fs, h, e => by
    simp only [sizesOf, Option.some.injEq] at h
    subst h
    have : fs = [] := by simpa using e
    subst this
    rfl
  | (off, t) :: r, pl, fs, h, e => by
    cases fs with
    | nil => simp at e
    | cons f fs =>
      simp only [List.map_cons, List.cons.injEq, Prod.mk.injEq] at e
      obtain ⟨⟨rfl, rfl⟩, e⟩ := e
      simp only [sizesOf] at h
      split at h
      · rename_i te l hte hl
        simp only [Option.some.injEq] at h
        subst h
        obtain ⟨i, hi, hs, _⟩ := (hT _ _ hte).size
        simp [List.mapM_cons, hi, hs, sizesOf_eq hT fs hl e]
      · cases h

theorem e_build {t : TypeId} {parts : Array (Nat × Operand)} (hT : TOk P T) (ho : o.op = .build t parts) (h : vcOp P T yl o fr (hp w) al K) (hS : Sat y n fr a) : EOk P y o a w al K := by
  simp only [vcOp, ho] at h
  split at h <;> try exact h.elim
  rename_i te ps hte hps
  have hpe := evParts_eval hS hps
  obtain ⟨_, _, ti, d, hti, hu, hsz, _, hh⟩ := hT _ _ hte
  have fin : ∀ cs, P.built t ps = some ⟨cs⟩ → (execOp a.eval o).run P w = .ok (.value (.agg ⟨cs⟩)) w := by
    intro cs hb
    have e : (parts.map fun (i, x) => (i, a.eval x)).toList = ps := by rw [← hpe]; simp
    have := run_build w t (parts.map fun (i, x) => (i, a.eval x)) ⟨cs⟩ (by rw [e]; exact hb)
    simp only [execOp, ho, Sem.run_bind, this]
    rfl
  split at h <;> try exact h.elim
  · rename_i fs hd
    split at h <;> try exact h.elim
    rename_i pl hpl
    split at h <;> try exact h.elim
    rename_i cs hcs
    rw [hd] at hh
    obtain ⟨hz, _, _, fields, rfl, hfl, _⟩ := hh
    refine ⟨.v (.agg ⟨cs⟩), w, .inl (fin cs ?_), Ge.refl _ _, h⟩
    have := sizesOf_eq hT fields.toList hpl hfl
    simp only [Program.built, hti, hu, hz, this, Value.cells]
    rw [← fill_eq ps _ _ hcs]
    congr 1
    funext i
    simp
  · rename_i m e hd
    split at h <;> try exact h.elim
    rename_i te' hte'
    split at h <;> try exact h.elim
    rename_i cs hcs
    rw [hd] at hh
    obtain ⟨hz, rfl⟩ := hh
    obtain ⟨i2, hi2, hs2, _⟩ := (hT _ _ hte').size
    refine ⟨.v (.agg ⟨cs⟩), w, .inl (fin cs ?_), Ge.refl _ _, h⟩
    simp only [Program.built, hti, hu, hz, hi2, hs2, Value.cells]
    exact fill_eq ps _ _ hcs


theorem flat_get (zc : List Value) : ∀ (m i : Nat), i < m * zc.length → (List.replicate m zc).flatten[i]? = zc[i % zc.length]?
  | 0, i, h => by simp at h
  | m + 1, i, h => by
    rw [List.replicate_succ, List.flatten_cons]
    by_cases hi : i < zc.length
    · rw [List.getElem?_append_left hi, Nat.mod_eq_of_lt hi]
    · have hge : zc.length ≤ i := Nat.le_of_not_lt hi
      rw [List.getElem?_append_right hge, flat_get zc m (i - zc.length) (by rw [Nat.succ_mul] at h; omega)]
      congr 1
      exact (Nat.mod_eq_sub_mod hge).symm

theorem rep_eq (m : Nat) (zc : List Value) : rep m zc = (List.replicate m zc).flatten := by
  unfold rep
  split
  · rename_i z
    induction m with
    | zero => rfl
    | succ m ih => rw [List.replicate_succ, ih, List.replicate_succ]; rfl
  · rfl

theorem rep_cells (z : Array Value) (m : Nat) : ((Array.range (m * z.size)).map fun i => z[i % z.size]!).toList = rep m z.toList := by
  rw [rep_eq]
  apply List.ext_getElem?
  intro i
  by_cases hi : i < m * z.size
  · rw [flat_get z.toList m i (by simpa using hi)]
    have hz : 0 < z.size := Nat.pos_of_ne_zero (fun e => by rw [e] at hi; simp at hi)
    have hm : i % z.size < z.size := Nat.mod_lt _ hz
    simp [hi, hm]
  · have h1 : ((List.replicate m z.toList).flatten).length ≤ i := by simp; omega
    rw [List.getElem?_eq_none h1, List.getElem?_eq_none (by simp; omega)]

theorem zsize {t : TypeId} {te : TE} {z : Value} {i : TypeInfo} (hT : TSpec P t te) (hn : noTup te = true) (hz : z.cells.toList = te.zc) (hi : P.info? t = some i) : z.cells.size = i.size := by
  obtain ⟨_, _, ti, d, hti, hu, hsz, _, hh⟩ := hT
  rw [hi] at hti
  cases hti
  have e : z.cells.size = te.zc.length := by rw [← hz]; simp
  rw [e, hsz]
  cases hd : te.d <;> rw [hd] at hh
  case sc => obtain ⟨h1, s, z', _, _, hz, _⟩ := hh; rw [hz, h1]; rfl
  case sl e => obtain ⟨h1, _, _, hz, _⟩ := hh; rw [hz, h1]; rfl
  case st fs => exact hh.2.1
  case ar m e => simp [noTup, hd] at hn
  case tup ts => simp [noTup, hd] at hn

theorem noTup_ne {te : TE} (h : noTup te = true) : ∀ ts, te.d ≠ .tup ts := fun ts e => by simp [noTup, e] at h

theorem e_makeSlice {t : TypeId} {l c : Operand} (hT : TOk P T) (ho : o.op = .makeSlice t l c) (h : vcOp P T yl o fr (hp w) al K) (hS : Sat y n fr a) : EOk P y o a w al K := by
  simp only [vcOp, ho] at h
  split at h <;> try exact h.elim
  rename_i k1 lv k2 cv te hl hc hte
  split at h <;> try exact h.elim
  rename_i e hd
  split at h <;> try exact h.elim
  rename_i te' hte'
  obtain ⟨j, m, rfl, rfl, hjm, hby, hm, h⟩ := h
  obtain ⟨_, _, ti, d, hti, hu, hsz, _, hh⟩ := hT _ _ hte
  rw [hd] at hh
  obtain ⟨_, rfl, _⟩ := hh
  cases hn : noTup te' with
  | false => rw [hn] at h; exact h.elim
  | true =>
    rw [hn] at h
    simp only [cond_true] at h
    obtain ⟨z, hz, hzc, i2, hi2, hzi⟩ := zero_run (w := w) (hT _ _ hte') (noTup_ne hn)
    obtain ⟨i3, hi3, hs2, hb2⟩ := (hT _ _ hte').size
    rw [hi2] at hi3
    cases hi3
    have hzs := zsize (hT _ _ hte') hn hzc hi2
    have hnt := rep_notT (m := m) (hT _ _ hte').nt
    rw [(hT _ _ hte').mkT] at h
    rw [← hzc, ← rep_cells] at h hnt
    refine ⟨.v (.slice (some ⟨w.heap.size, 0, none⟩) j m), w.alloc (.cells ((Array.range (m * z.cells.size)).map fun i => z.cells[i % z.cells.size]!) e), .inl ?_, Ge.alloc _ _, NEW_run hnt h⟩
    have hcj := ev_eval hS hl
    have hcm := ev_eval hS hc
    have hby' : (i2.bytes : Int) * (m : Int) ≤ 281474976710656 := by
      rw [hb2]
      have h1 : ((te'.bytes * m : Nat) : Int) ≤ ((281474976710656 : Nat) : Int) := Int.ofNat_le.2 hby
      rw [Int.natCast_mul] at h1
      exact h1
    have hr := run_make w t e i2 z hu hi2 hzi k1 k2 j m (by omega) (by omega) hby' (by omega)
    simp only [execOp, ho, hcj, hcm, Sem.run_bind, hr]
    simp [madeCells, hzs, avV]

theorem e_buildSlice {t : TypeId} {len : Nat} {parts : Array (Nat × Operand)} (hT : TOk P T) (ho : o.op = .buildSlice t len parts) (h : vcOp P T yl o fr (hp w) al K) (hS : Sat y n fr a) : EOk P y o a w al K := by
  simp only [vcOp, ho] at h
  split at h <;> try exact h.elim
  rename_i te ps hte hps
  have hpe := evParts_eval hS hps
  split at h <;> try exact h.elim
  rename_i e hd
  split at h <;> try exact h.elim
  rename_i te' hte'
  obtain ⟨_, _, ti, d, hti, hu, hsz, _, hh⟩ := hT _ _ hte
  rw [hd] at hh
  obtain ⟨_, rfl, _⟩ := hh
  cases hn : noTup te' && Nat.ble (len * te'.size) 16777216 with
  | false => rw [hn] at h; exact h.elim
  | true =>
    rw [hn] at h
    simp only [cond_true] at h
    simp only [Bool.and_eq_true, Nat.ble_eq] at hn
    split at h <;> try exact h.elim
    rename_i cs hcs
    cases hnt : cs.all notT with
    | false => rw [hnt] at h; exact h.elim
    | true =>
    rw [hnt, (hT _ _ hte').mkT] at h
    simp only [cond_true] at h
    obtain ⟨z, hz, hzc, i2, hi2, hzi⟩ := zero_run (w := w) (hT _ _ hte') (noTup_ne hn.1)
    obtain ⟨i3, hi3, hs2, hb2⟩ := (hT _ _ hte').size
    rw [hi2] at hi3
    cases hi3
    have hzs := zsize (hT _ _ hte') hn.1 hzc hi2
    rw [← hzc, ← rep_cells] at hcs
    have hf := fill_eq ps _ _ hcs
    have e1 : (⟨((Array.range (len * z.cells.size)).map fun i => z.cells[i % z.cells.size]!).toList⟩ : Array Value) = (Array.range (len * z.cells.size)).map fun i => z.cells[i % z.cells.size]! := by apply Array.ext'; rfl
    rw [e1, hzs, ← hs2] at hf
    have e2 : (parts.map fun (i, x) => (i, a.eval x)).toList = ps := by rw [← hpe]; simp
    have hb : ¬ (16777216 < len * i2.size) := by rw [hs2]; have := hn.2; omega
    refine ⟨.v (.slice (some ⟨w.heap.size, 0, none⟩) len len), w.alloc (.cells ⟨cs⟩ e), .inl ?_, Ge.alloc _ _, NEW_run (c := ⟨cs⟩) hnt h⟩
    have e0 : ∀ (f : Nat → Value), Array.map f (Array.range 0) = #[] := fun f => Array.ext (by simp) (by intro i h; simp at h)
    by_cases h0 : len * i2.size = 0
    · rw [h0, e0] at hf
      simp only [execOp, ho, Instr.buildSlice, Sem.run_bind, run_underlying hu, Result.andThen_ok, run_sizeOf hi2, e2]
      simp [h0, e0, hf, newRow, avV]
    · simp only [execOp, ho, Instr.buildSlice, Sem.run_bind, run_underlying hu, Result.andThen_ok, run_sizeOf hi2, e2]
      simp [h0, hb, hz, hzs, hf, newRow, avV]

theorem rdN_cells {b off m : Nat} {cs : List Value} (h : rdN (hp w) b off m cs) : (loadCells ⟨b, off, none⟩ m).run P w = .ok ⟨cs⟩ w := by
  obtain ⟨hl, h⟩ := h
  have := run_loadCells_list (P := P) (w := w) ⟨b, off, none⟩ cs (fun j v hj => by rw [add_off]; exact cell_of_rd (h j v hj))
  rw [hl] at this
  exact this

theorem rdN_notT {b off m : Nat} {cs : List Value} (h : rdN (hp w) b off m cs) : cs.all notT = true := by
  rw [List.all_eq_true]
  intro v hv
  obtain ⟨i, hi⟩ := List.mem_iff_getElem?.1 hv
  obtain ⟨_, _, _, _, _, _, hn⟩ := rd_world (h.2 i v hi)
  exact hn
theorem src_run {s : Nat} {x : Value} {F : Nat → List Value → Prop} (h : srcCells (hp w) s x F) :
    ∃ m cs, (Builtin.lenOf x).run P w = .ok m w ∧ (∀ W, hp W = hp w → (Builtin.firstCells s m x).run P W = .ok ⟨cs⟩ W) ∧ cs.all notT = true ∧ F m cs := by
  unfold srcCells at h
  split at h <;> try exact h.elim
  · rename_i m c
    exact ⟨m, [], by simp [Builtin.lenOf], fun W hW => by simp [Builtin.firstCells], rfl, h⟩
  · rename_i b off m c
    obtain ⟨cs, hr, h⟩ := h
    exact ⟨m, cs, by simp [Builtin.lenOf], fun W hW => by rw [← hW] at hr; simp [Builtin.firstCells, rdN_cells hr], rdN_notT hr, h⟩
  · obtain ⟨rfl, h⟩ := h
    exact ⟨0, [], by simp [Builtin.lenOf], fun W hW => by simp [Builtin.firstCells, loadCells, loadCellsFrom], rfl, h⟩
  · rename_i z
    refine ⟨z.size, _, by simp [Builtin.lenOf], fun W hW => ?_, ?_, h⟩
    · simp only [Builtin.firstCells, Sem.run_pure]
      congr 1
      apply Array.ext'
      have : (z.extract 0 z.size) = z := by simp
      rw [this]
      simp
    · rw [List.all_eq_true]
      intro v hv
      obtain ⟨_, _, rfl⟩ := List.mem_map.1 hv
      rfl

theorem wrN_hp {b off : Nat} {cs : List Value} (h : (∀ i, i < cs.length → (rd (hp w) b (off + i)).isSome = true) ∧ (∀ v ∈ cs, isCell v = true)) :
    ∃ w', (storeCells ⟨b, off, none⟩ cs).run P w = .ok () w' ∧ Ge 0 w w' ∧ hp w' = wrN (hp w) b off cs := by
  have := storeCells_run (P := P) (b := b) (o := off) cs 0 w (by simpa using h.1) h.2
  simpa using this

end
end Go.V
namespace Go.V
set_option linter.unusedSectionVars false
variable [Sp]
section
variable {P : Program} {T : Tab} {yl : Option YG} {y : Value} {n : Nat} {fr : Fr} {a : Act} {w : World} {o : Oper} {al : Al} {K : AV → Hp → Al → Prop}

theorem notInt_run {t : TypeId} {te : TE} (hT : TSpec P t te) (h : notInt te = true) : P.underlying t = some .string ∨ ∃ e, P.underlying t = some (.slice e) := by
  obtain ⟨_, _, ti, d, hti, hu, hsz, _, hh⟩ := hT
  unfold notInt at h
  split at h <;> try (cases h; done)
  · rename_i hd hs
    rw [hd] at hh
    obtain ⟨_, s, z, hs', hsd, _⟩ := hh
    rw [hs] at hs'
    cases hs'
    cases d <;> first | exact .inl hu | exact absurd (show false = true from hsd) (by decide)
  · rename_i e s hd hs
    rw [hd] at hh
    obtain ⟨_, rfl, _⟩ := hh
    exact .inr ⟨_, hu⟩

theorem rep_len' (n : Nat) (zc : List Value) : (rep n zc).length = n * zc.length := by
  unfold rep
  split <;> simp

theorem isI64_run {t : TypeId} {te : TE} (hT : TSpec P t te) (h : isI64 te = true) : P.underlying t = some (.int .i64) := by
  obtain ⟨_, _, ti, d, hti, hu, hsz, _, hh⟩ := hT
  unfold isI64 at h
  split at h <;> try (cases h; done)
  rename_i hd hs
  rw [hd] at hh
  obtain ⟨_, s, z, hs', hsd, _⟩ := hh
  rw [hs] at hs'
  cases hs'
  cases d <;> first | exact absurd (show false = true from hsd) (by decide) | skip
  rename_i k
  have : IntKind.i64 = k := by simpa [shD] using hsd
  rw [hu, this]

set_option maxHeartbeats 1000000 in
theorem appendZ_run {t u e : TypeId} {ts : List TypeId} {ty : TypeId} {te' ue : TE} {p : Option Addr} {len cap : Nat} {n : Int} {xs : List Value} {F : Option Addr → Nat → Nat → Hp → Prop}
    (hu : P.underlying t = some (.slice e)) (hT' : TSpec P e te') (hn : noTup te' = true) (hU : TSpec P u ue) (hni : isI64 ue = true) (h : APPZ (hp w) te' p len cap n F) :
    ∃ q l c w', (Builtin.append_ ⟨t :: u :: ts⟩ ty ⟨.slice p len cap :: .int .i64 n :: xs⟩).run P w = .ok (.slice q l c) w' ∧ Ge 0 w w' ∧ F q l c (hp w') := by
  have hdu := isI64_run hU hni
  obtain ⟨m, rfl, hgt, g1, gz, gm, g2, g3⟩ := h
  obtain ⟨z, hz, hzc, i2, hi2, hzi⟩ := zero_run (P := P) (w := w) hT' (noTup_ne hn)
  obtain ⟨i3, hi3, hs2, hb2⟩ := hT'.size
  rw [hi2] at hi3
  cases hi3
  have hzs := zsize hT' hn hzc hi2
  obtain ⟨m', old, hlen', hold, hnt2, h3⟩ := src_run (P := P) g3
  have em : m' = len := by
    simp [Builtin.lenOf] at hlen'
    omega
  subst em
  let c := (Question.appendCap (m' + m) cap e).cut (w.tape w.drawn (.appendCap (m' + m) cap e))
  have hc : m' + m ≤ c := by simp only [c, Question.cut]; omega
  have hcc : (Question.appendCap (m' + m) cap e).cut (w.tape w.drawn (.appendCap (m' + m) cap e)) = c := rfl
  have hh := h3 c w.heap.size hp_fresh hc
  refine ⟨_, _, _, w.drew.alloc (.cells ⟨old ++ (rep m te'.zc ++ rep (c - (m' + m)) te'.zc)⟩ e), ?_, (Ge.drew w).trans (Ge.alloc _ _), by rw [hp_alloc _ _ (by rw [List.all_append, List.all_append, rep_notT hT'.nt, hnt2, rep_notT hT'.nt]; rfl), hp_drew, ← hT'.mkT]; exact hh⟩
  have hfo := hold w.drew rfl
  rw [← hs2] at hfo
  have hb0 : ¬ i2.bytes = 0 := by omega
  have hnb : ¬ (281474976710656 < Builtin.nextslicecap (m' + m) cap * i2.bytes) := by rw [hb2]; omega
  have hzz : ∀ W, (zeroValue e).run P W = .ok z W := fun W => by simp [zeroValue, run_typeInfo hi2, hzi]
  have hcells : ∀ k, Builtin.zeroCells z.cells k = ⟨rep k te'.zc⟩ := fun k => by
    apply Array.ext'
    rw [← hzc, ← rep_cells]
    rfl
  have hw64 : IntKind.i64.wrap (m : Int) = (m : Int) := wrap_in .i64 (by simp [IntKind.min, IntKind.max, IntKind.signed, IntKind.bits]; omega)
  have hneg : ¬ ((m : Int) < 0) := by omega
  have hbig : ¬ (281474976710656 < (m : Int) * (i2.bytes : Int)) := by
    rw [hb2]
    have : ((m * te'.bytes : Nat) : Int) ≤ 281474976710656 := by omega
    rw [Int.natCast_mul] at this
    omega
  have hncap : ¬ (m' + m ≤ cap) := by omega
  have happ : (if m * i2.size = 0 then (#[] : Array Value) else ⟨rep m te'.zc⟩) = ⟨rep m te'.zc⟩ := by
    split
    · rename_i h0
      have : rep m te'.zc = [] := List.length_eq_zero_iff.1 (by
        have : (rep m te'.zc).length = m * i2.size := by rw [← hzs, rep_len', ← hzc]; simp
        omega)
      rw [this]
    · rfl
  by_cases h0 : m * i2.size = 0
  · rw [if_pos h0] at happ
    simp [Builtin.append_, run_underlying hu, run_sizeOf hi2, run_underlying hdu, asInt, asIntOf, hw64, hneg, hbig, hncap, hb0, hnb, run_typeInfo hi2, Question.forced, hcc, hfo, hzz, hcells, newRow, happ]
    exact fun h => absurd h (by omega)
  · simp [Builtin.append_, run_underlying hu, run_sizeOf hi2, run_underlying hdu, asInt, asIntOf, hw64, hneg, hbig, hncap, hb0, hnb, run_typeInfo hi2, Question.forced, hcc, hfo, hzz, hcells, newRow, h0]
    exact fun h => absurd h (by omega)

set_option maxHeartbeats 1000000 in
theorem append_run {t u e : TypeId} {ts : List TypeId} {ty : TypeId} {te' ue : TE} {p : Option Addr} {len cap : Nat} {x : Value} {xs : List Value} {F : Option Addr → Nat → Nat → Hp → Prop}
    (hu : P.underlying t = some (.slice e)) (hT' : TSpec P e te') (hn : noTup te' = true) (hU : TSpec P u ue) (hni : notInt ue = true) (h : APP (hp w) te' p len cap x F) :
    ∃ q l c w', (Builtin.append_ ⟨t :: u :: ts⟩ ty ⟨.slice p len cap :: x :: xs⟩).run P w = .ok (.slice q l c) w' ∧ Ge 0 w w' ∧ F q l c (hp w') := by
  have hdu := notInt_run hU hni
  obtain ⟨m, new, hlen, hnew, hnt1, h1, h2⟩ := src_run (P := P) h
  obtain ⟨z, hz, hzc, i2, hi2, hzi⟩ := zero_run (P := P) (w := w) hT' (noTup_ne hn)
  obtain ⟨i3, hi3, hs2, hb2⟩ := hT'.size
  rw [hi2] at hi3
  cases hi3
  have hzs := zsize hT' hn hzc hi2
  by_cases hcap : len + m ≤ cap
  · have h1 := h1 hcap
    split at h1 <;> try exact h1.elim
    · refine ⟨none, len + m, cap, w, ?_, Ge.refl _ _, h1⟩
      have hf := hnew w rfl
      rw [← hs2] at hf
      rcases hdu with hdu | ⟨e', hdu⟩ <;> simp [Builtin.append_, run_underlying hu, run_sizeOf hi2, run_underlying hdu, hlen, hcap, hf]
    · rename_i b off _
      obtain ⟨g1, g2, g3⟩ := h1
      obtain ⟨w', hr, hg, hh⟩ := wrN_hp (P := P) (w := w) (off := off + len * te'.size) (b := b) (cs := new) ⟨g1, g2⟩
      refine ⟨_, _, _, w', ?_, hg, by rw [hh]; exact g3⟩
      have hf := hnew w rfl
      rw [← hs2] at hf hr
      rcases hdu with hdu | ⟨e', hdu⟩ <;> simp [Builtin.append_, run_underlying hu, run_sizeOf hi2, run_underlying hdu, hlen, hcap, hf, add_off, hr]
  · obtain ⟨g1, g2, g3⟩ := h2 (by omega)
    obtain ⟨m', old, hlen', hold, hnt2, h3⟩ := src_run (P := P) g3
    have em : m' = len := by
      simp [Builtin.lenOf] at hlen'
      omega
    subst em
    let c := (Question.appendCap (m' + m) cap e).cut (w.tape w.drawn (.appendCap (m' + m) cap e))
    have hc : m' + m ≤ c := by simp only [c, Question.cut]; omega
    have hcc : (Question.appendCap (m' + m) cap e).cut (w.tape w.drawn (.appendCap (m' + m) cap e)) = c := rfl
    have hh := h3 c w.heap.size hp_fresh hc
    refine ⟨_, _, _, w.drew.alloc (.cells ⟨old ++ (new ++ rep (c - (m' + m)) te'.zc)⟩ e), ?_, (Ge.drew w).trans (Ge.alloc _ _), by rw [hp_alloc _ _ (by rw [List.all_append, List.all_append, hnt1, hnt2, rep_notT hT'.nt]; rfl), hp_drew, ← hT'.mkT]; exact hh⟩
    have hf := hnew w.drew rfl
    have hfo := hold w.drew rfl
    rw [← hs2] at hf hfo
    have hb0 : ¬ i2.bytes = 0 := by omega
    have hnb : ¬ (281474976710656 < Builtin.nextslicecap (m' + m) cap * i2.bytes) := by rw [hb2]; omega
    have hzz : ∀ W, (zeroValue e).run P W = .ok z W := fun W => by simp [zeroValue, run_typeInfo hi2, hzi]
    have hcells : Builtin.zeroCells z.cells (c - (m' + m)) = ⟨rep (c - (m' + m)) te'.zc⟩ := by
      apply Array.ext'
      rw [← hzc, ← rep_cells]
      rfl
    rcases hdu with hdu | ⟨e', hdu⟩
    all_goals
      simp [Builtin.append_, run_underlying hu, run_sizeOf hi2, run_underlying hdu, hlen, hcap, hb0, hnb, run_typeInfo hi2, Question.forced, hcc, hf, hfo, hzz, hcells, newRow]


theorem isSh_int {t : TypeId} {k : IntKind} (hT : TOk P T) (h : isSh T t (.int k) = true) : P.underlying t = some (.int k) := by
  obtain ⟨d, hu, hd⟩ := isSh_spec hT h
  rcases hd with hd | ⟨hd, _⟩
  · cases d <;> first | exact absurd (show false = true from hd) (by decide) | skip
    rename_i k'
    have : k = k' := by simpa [shD] using hd
    rw [this]; exact hu
  · cases hd

theorem push_all : ∀ (l : List UInt8) (acc : List UInt8), (l.map fun x => (x.toNat : Int)).foldl (fun (r : ByteArray) (n : Int) => r.push (UInt8.ofNat n.toNat)) ⟨⟨acc⟩⟩ = ⟨⟨acc ++ l⟩⟩
  | [], acc => by simp
  | x :: l, acc => by
    simp only [List.map_cons, List.foldl_cons]
    have : (⟨⟨acc⟩⟩ : ByteArray).push (UInt8.ofNat ((x.toNat : Int)).toNat) = ⟨⟨acc ++ [x]⟩⟩ := by
      simp [ByteArray.push]
    rw [this, push_all l (acc ++ [x])]
    simp

theorem BTS_run {p : Option Addr} {m c : Nat} {F : ByteArray → Prop} (h : BTS (hp w) p m F) : ∃ s, (Conv.bytesToString (.slice p m c)).run P w = .ok (.string s) w ∧ F s := by
  unfold BTS at h
  split at h <;> try exact h.elim
  · exact ⟨_, by simp [Conv.bytesToString], h⟩
  · rename_i b off
    obtain ⟨l, hl, hr, h⟩ := h
    refine ⟨_, ?_, h⟩
    have hc : (loadCells ⟨b, off, none⟩ m).run P w = .ok ((l.map fun x => (x.toNat : Int)).map (Value.int .u8)).toArray w := by
      have := rdN_cells (P := P) (w := w) (b := b) (off := off) (m := m) (cs := (l.map fun x => (x.toNat : Int)).map (Value.int .u8)) ⟨by simp [hl], fun i v hv => by
        simp only [List.map_map, List.getElem?_map, Option.map_eq_some_iff] at hv
        obtain ⟨x, hx, rfl⟩ := hv
        exact hr i x hx⟩
      exact this
    rw [run_bytesToString (P := P) w ⟨b, off, none⟩ m c (l.map fun x => (x.toNat : Int)) hc]
    have := push_all l []
    simp only [List.nil_append] at this
    rw [← this]
    rfl

theorem e_append {c : Call} (hT : TOk P T) (ho : o.op = .call c) (hc : c.callee = .builtin .append) (h : vcOp P T yl o fr (hp w) al K) (hS : Sat y n fr a) : EOk P y o a w al K := by
  simp only [vcOp, ho, hc] at h
  split at h <;> try exact h.elim
  rename_i args hargs
  have ha := evsA_eval hS hargs
  have hts : c.argTypes = ⟨c.argTypes.toList⟩ := by simp
  generalize c.argTypes.toList = ts at h hts
  simp only [vcBuiltin, bApp] at h
  split at h <;> try exact h.elim
  rename_i t u r p len cap x xs
  split at h <;> try exact h.elim
  rename_i te ue hte hue
  split at h <;> try exact h.elim
  rename_i e hd
  cases hni : notInt ue with
  | false =>
    rw [hni] at h
    simp only [cond_false] at h
    cases hi : isI64 ue with
    | false => rw [hi] at h; exact h.elim
    | true =>
      rw [hi] at h
      simp only [cond_true] at h
      split at h <;> try exact h.elim
      rename_i te' hte'
      cases hn : noTup te' with
      | false => rw [hn] at h; exact h.elim
      | true =>
        rw [hn] at h
        simp only [cond_true] at h
        split at h <;> try exact h.elim
        obtain ⟨_, _, ti, d, hti, hu, hsz, _, hh⟩ := hT _ _ hte
        rw [hd] at hh
        obtain ⟨_, rfl, _⟩ := hh
        obtain ⟨q, l, k, w', hr, hg, h⟩ := appendZ_run (ts := r) (ty := o.type) (xs := xs) hu (hT _ _ hte') hn (hT _ _ hue) hi h
        exact ⟨_, w', .inl (ex_builtin ho hc ha (fun cs => by simp only [builtin, hts, Sem.run_bind, hr]; rfl)), hg, h⟩
  | true =>
    rw [hni] at h
    simp only [cond_true] at h
    split at h <;> try exact h.elim
    rename_i te' hte'
    cases hn : noTup te' with
    | false => rw [hn] at h; exact h.elim
    | true =>
      rw [hn] at h
      simp only [cond_true] at h
      obtain ⟨_, _, ti, d, hti, hu, hsz, _, hh⟩ := hT _ _ hte
      rw [hd] at hh
      obtain ⟨_, rfl, _⟩ := hh
      obtain ⟨q, l, k, w', hr, hg, h⟩ := append_run (ts := r) (ty := o.type) (xs := xs) hu (hT _ _ hte') hn (hT _ _ hue) hni h
      exact ⟨_, w', .inl (ex_builtin ho hc ha (fun cs => by simp only [builtin, hts, Sem.run_bind, hr]; rfl)), hg, h⟩

theorem clear_run {t e : TypeId} {ts : List TypeId} {ty : TypeId} {te' : TE} {p : Option Addr} {len cap : Nat} {xs : List Value} {F : Hp → Prop}
    (hu : P.underlying t = some (.slice e)) (hT' : TSpec P e te') (hn : noTup te' = true) (h : CLR (hp w) te' p len F) :
    ∃ w', (Builtin.clear_ ⟨t :: ts⟩ ty ⟨.slice p len cap :: xs⟩).run P w = .ok (.tuple #[]) w' ∧ Ge 0 w w' ∧ F (hp w') := by
  unfold CLR at h
  split at h <;> try exact h.elim
  · exact ⟨w, by simp [Builtin.clear_, run_underlying hu], Ge.refl _ _, h⟩
  · rename_i b off
    obtain ⟨g1, g2, g3⟩ := h
    cases len with
    | zero => exact ⟨w, by simp [Builtin.clear_, run_underlying hu], Ge.refl _ _, by
        have e0 : rep 0 te'.zc = [] := by unfold rep; split <;> rfl
        rw [e0] at g3; exact g3⟩
    | succ m =>
      obtain ⟨z, hz, hzc, i2, hi2, hzi⟩ := zero_run (P := P) (w := w) hT' (noTup_ne hn)
      obtain ⟨w', hr, hg, hh⟩ := wrN_hp (P := P) (w := w) (off := off) (b := b) (cs := rep (m + 1) te'.zc) ⟨g1, g2⟩
      refine ⟨w', ?_, hg, by rw [hh]; exact g3⟩
      have hcells : (Builtin.zeroCells z.cells (m + 1)).toList = rep (m + 1) te'.zc := by
        rw [← hzc, ← rep_cells]
        rfl
      have hzz : ∀ W, (zeroValue e).run P W = .ok z W := fun W => by simp [zeroValue, run_typeInfo hi2, hzi]
      simp [Builtin.clear_, run_underlying hu, hzz, hcells, hr]

theorem e_clear {c : Call} (hT : TOk P T) (ho : o.op = .call c) (hc : c.callee = .builtin .clear) (hm : c.argTypes.toList.any Sp.mp = false) (h : vcOp P T yl o fr (hp w) al K) (hS : Sat y n fr a) : EOk P y o a w al K := by
  simp only [vcOp, ho, hc] at h
  split at h <;> try exact h.elim
  rename_i args hargs
  have ha := evsA_eval hS hargs
  have hts : c.argTypes = ⟨c.argTypes.toList⟩ := by simp
  generalize c.argTypes.toList = ts at h hts hm
  simp only [vcBuiltin, hm, cond_false, bClr] at h
  split at h <;> try exact h.elim
  rename_i t r p len cap xs
  split at h <;> try exact h.elim
  rename_i te hte
  split at h <;> try exact h.elim
  rename_i e hd
  split at h <;> try exact h.elim
  rename_i te' hte'
  cases hn : noTup te' with
  | false => rw [hn] at h; exact h.elim
  | true =>
    rw [hn] at h
    simp only [cond_true] at h
    obtain ⟨_, _, ti, d, hti, hu, hsz, _, hh⟩ := hT _ _ hte
    rw [hd] at hh
    obtain ⟨_, rfl, _⟩ := hh
    obtain ⟨w', hr, hg, h⟩ := clear_run (ts := r) (ty := o.type) (xs := xs) (cap := cap) hu (hT _ _ hte') hn h
    exact ⟨_, w', .inl (ex_builtin ho hc ha (fun cs => by simp only [builtin, hts, Sem.run_bind, hr]; rfl)), hg, h⟩

theorem liftRes_elim {t : TypeId} {v : Value} {F : Value → Prop} (h : liftRes T t v F) : F v := by
  unfold liftRes at h
  split at h <;> try exact h.elim
  rename_i te hte
  split at h <;> try exact h.elim
  · split at h <;> try exact h.elim
    exact lift_elim h
  · split at h <;> try exact h.elim
    exact lift_elim h
  · obtain ⟨cs, rfl, h2⟩ := aggV_elim h
    have := (lifts_elim h2).1
    simpa using this
  · unfold tupV at h
    split at h <;> try exact h.elim
    rename_i cs
    obtain ⟨l⟩ := cs
    simp only at h
    split at h <;> simp only [d0, d2, d3, d4] at h <;> try exact h.elim
    all_goals (split at h <;> try exact h.elim)
    · exact h
    · have h2 := lift1_elim h; exact lift1_elim (F := fun y => F (.tuple ⟨[_, y]⟩)) h2
    · have h2 := lift1_elim h; have h3 := lift1_elim h2; exact lift1_elim (F := fun y => F (.tuple ⟨[_, _, y]⟩)) h3
    · have h2 := lift1_elim h; have h3 := lift1_elim h2; have h4 := lift1_elim h3; exact lift1_elim (F := fun y => F (.tuple ⟨[_, _, _, y]⟩)) h4

theorem e_convert {src dst : TypeId} {x : Operand} (hT : TOk P T) (ho : o.op = .convert src dst x) (h : vcOp P T yl o fr (hp w) al K) (hS : Sat y n fr a) : EOk P y o a w al K := by
  simp only [vcOp, ho] at h
  split at h <;> try exact h.elim
  rename_i xv hx
  have hc := ev_eval hS hx
  unfold vcConv at h
  split at h <;> try exact h.elim
  rename_i se te hse hte
  obtain ⟨_, _, tj, ds, htj, hus, _, _, hhs⟩ := hT _ _ hse
  obtain ⟨_, _, ti, d, hti, hu, hsz, _, hh⟩ := hT _ _ hte
  split at h <;> try exact h.elim
  · rename_i k' k m hd hs
    rw [hd] at hh
    obtain ⟨_, s, z, hs', hsd, _⟩ := hh
    rw [hs] at hs'
    cases hs'
    have hu' : P.underlying dst = some (.int k') := by
      cases d <;> first | exact absurd (show false = true from hsd) (by decide) | skip
      rename_i k2
      have : k' = k2 := by simpa [shD] using hsd
      rw [this]; exact hu
    cases hw : widen k k' with
    | true =>
      rw [hw] at h
      exact ⟨_, w, .inl (by simp [execOp, ho, hc, convert, run_underlying hus, run_underlying hu', Conv.intToInt, wrap_in k' h.1, avV]), Ge.refl _ _, h.2⟩
    | false =>
      rw [hw] at h
      exact ⟨_, w, .inl (by simp [execOp, ho, hc, convert, run_underlying hus, run_underlying hu', Conv.intToInt, avV]), Ge.refl _ _, h⟩
  · rename_i s hd hs
    rw [hd] at hh
    obtain ⟨_, s, z, hs', hsd, _⟩ := hh
    rw [hs] at hs'
    cases hs'
    have hu' : P.underlying dst = some .string := by
      cases d <;> first | exact absurd (show false = true from hsd) (by decide) | exact hu
    refine ⟨_, w, .inl ?_, Ge.refl _ _, h⟩
    cases ds <;> simp [execOp, ho, hc, convert, run_underlying hus, run_underlying hu', avV]
  · obtain ⟨q, hq, h⟩ := h
    exact ⟨.v (.pointer q), w, .inl (by simp [execOp, ho, hc, hq w rfl, avV]), Ge.refl _ _, h⟩
  · rename_i p m c hd hs
    split at h <;> try exact h.elim
    rename_i e hse'
    cases hi : isSh T e (.int .u8) with
    | false => rw [hi] at h; exact h.elim
    | true =>
      rw [hi] at h
      rw [hd] at hh
      obtain ⟨_, s, z, hs', hsd, _⟩ := hh
      rw [hs] at hs'
      cases hs'
      have hu' : P.underlying dst = some .string := by
        cases d <;> first | exact absurd (show false = true from hsd) (by decide) | exact hu
      rw [hse'] at hhs
      obtain ⟨_, rfl, _⟩ := hhs
      simp only [cond_true] at h
      obtain ⟨s, hr, h⟩ := BTS_run (P := P) (c := c) h
      refine ⟨.v (.string s), w, .inl ?_, Ge.refl _ _, h⟩
      cases p <;> simp [execOp, ho, hc, convert, run_underlying hus, run_underlying hu', run_underlying (isSh_int hT hi), hr, avV]
  · rename_i s hd
    obtain ⟨v, w', hr, hg, h⟩ := h w rfl
    exact ⟨.v v, w', .inl (by simp [execOp, ho, hc, hr, avV]), hg, liftRes_elim h⟩

theorem BLT_run {b : Builtin} {c : Call} {args : List Value} {F : Value → Hp → Prop} (ho : o.op = .call c) (hc : c.callee = .builtin b) (ha : c.args.map a.eval = ⟨args⟩) (h : BLT P b c.argTypes.toList o.type args (hp w) F)
    (hF : ∀ v w', Ge 0 w w' → F v (hp w') → K (.v v) (hp w') al) : EOk P y o a w al K := by
  obtain ⟨v, w', h1, h2, h3⟩ := h w rfl
  exact ⟨.v v, w', .inl (ex_builtin ho hc ha fun cs => by have := h1 cs; simpa [avV] using this), h2, hF v w' h2 h3⟩

theorem isSh_map {t : TypeId} (hT : TOk P T) (h : isSh T t .map = true) : ∃ k e, P.underlying t = some (.map k e) := by
  unfold isSh at h
  split at h <;> try cases h
  rename_i te hte
  obtain ⟨_, _, ti, d, hti, hu, hsz, _, hh⟩ := hT _ _ hte
  split at h <;> try cases h
  · rename_i x hd hs
    rw [hd] at hh
    obtain ⟨_, s, z, hs', hsd, _⟩ := hh
    rw [hs] at hs'
    cases hs'
    have := of_decide_eq_true h
    subst this
    cases d <;> first | exact absurd (show false = true from hsd) (by decide) | exact ⟨_, _, hu⟩
  · rename_i x hd hs
    rw [hd] at hh
    obtain ⟨_, _, e1, _⟩ := hh
    rw [hs] at e1
    cases e1
    cases (of_decide_eq_true h)

/-- What is done to maps. -/
theorem e_map (hT : TOk P T) (hm : (match o.op with | .makeMap .. | .lookup .. | .mapUpdate .. | .insert .. | .range .. | .next .. | .entry .. | .makeInterface .. | .typeAssert .. => true | _ => false) = true) (h : vcOp P T yl o fr (hp w) al K) (hS : Sat y n fr a) : EOk P y o a w al K := by
  cases ho : o.op <;> rw [ho] at hm <;> try (cases hm; done)
  case makeMap t r =>
    cases r with
    | some x => simp only [vcOp, ho] at h
    | none =>
      simp only [vcOp, ho] at h
      refine ⟨.v (.map (some w.heap.size)), w.alloc (.map #[] 0), .inl (by simp [execOp, ho, Instr.makeMap, avV]), Ge.alloc _ _, ?_⟩
      have e : hp (w.alloc (.map #[] 0)) = upd (hp w) w.heap.size (mapV [] 0) := by
        funext x
        simp only [upd, hp, World.alloc]
        by_cases hx : x = w.heap.size
        · subst hx; simp [objB]
        · simp only [if_neg hx]
          rw [Array.getElem?_push]
          simp [hx]
      rw [e]
      exact h _ hp_fresh
  case lookup t x i ok =>
    simp only [vcOp, ho] at h
    split at h <;> try exact h.elim
    rename_i m k h1 h2
    obtain ⟨v, hr, h⟩ := h w rfl
    exact ⟨.v v, w, .inl (by simp [execOp, ho, ev_eval hS h1, ev_eval hS h2, hr, avV]), Ge.refl _ _, liftRes_elim h⟩
  case mapUpdate t x i v =>
    simp only [vcOp, ho] at h
    split at h <;> try exact h.elim
    rename_i m k u h1 h2 h3
    obtain ⟨w', hr, hg, h⟩ := h w rfl
    exact ⟨.v undef, w', .inr ⟨by simp [execOp, ho, ev_eval hS h1, ev_eval hS h2, ev_eval hS h3, hr], rfl⟩, hg, h⟩
  case insert t x i v =>
    simp only [vcOp, ho] at h
    split at h <;> try exact h.elim
    rename_i m k u h1 h2 h3
    obtain ⟨w', hr, hg, h⟩ := h w rfl
    exact ⟨.v undef, w', .inr ⟨by simp [execOp, ho, ev_eval hS h1, ev_eval hS h2, ev_eval hS h3, hr], rfl⟩, hg, h⟩
  case range t x =>
    simp only [vcOp, ho] at h
    split at h <;> try exact h.elim
    rename_i m h1
    obtain ⟨b, w', hr, hg, h⟩ := h w rfl
    exact ⟨.v (.pointer (some ⟨b, 0, none⟩)), w', .inl (by simp [execOp, ho, ev_eval hS h1, hr, avV]), hg, h⟩
  case next x isS =>
    cases isS with
    | true => simp only [vcOp, ho] at h
    | false =>
      simp only [vcOp, ho] at h
      split at h <;> try exact h.elim
      rename_i b h1
      obtain ⟨w', hg, h⟩ := h w rfl
      rcases h with ⟨hr, h⟩ | ⟨r, hr, h⟩
      · exact ⟨.v (.tuple ⟨[.bool false]⟩), w', .inl (by simp [execOp, ho, ev_eval hS h1, hr, avV]), hg, h⟩
      · exact ⟨.v (.tuple ⟨.bool true :: r⟩), w', .inl (by simp [execOp, ho, ev_eval hS h1, hr, avV]), hg, h⟩
  case entry x =>
    simp only [vcOp, ho] at h
    split at h <;> try exact h.elim
    rename_i b h1
    obtain ⟨k, v, hr, h⟩ := h w rfl
    exact ⟨.v (.tuple ⟨[k, v]⟩), w, .inl (by simp [execOp, ho, ev_eval hS h1, hr, avV]), Ge.refl _ _, h⟩

  case makeInterface t x =>
    simp only [vcOp, ho] at h
    split at h <;> try exact h.elim
    rename_i m h1
    cases hs : isSh T t .map with
    | false => rw [hs] at h; exact h.elim
    | true =>
      rw [hs] at h
      obtain ⟨k, e, hu⟩ := isSh_map hT hs
      exact ⟨.v (.iface t (.map m)), w, .inl (by simp [execOp, ho, ev_eval hS h1, Instr.makeInterface, run_underlying hu, avV]), Ge.refl _ _, h⟩
  case typeAssert x xt t ok =>
    cases ok with
    | true => simp only [vcOp, ho] at h
    | false =>
      simp only [vcOp, ho] at h
      split at h <;> try exact h.elim
      rename_i v h1
      cases hs : isSh T t .map with
      | false => rw [hs] at h; exact h.elim
      | true =>
        rw [hs] at h
        obtain ⟨k, e, hu⟩ := isSh_map hT hs
        obtain ⟨u, rfl, h⟩ := h
        unfold liftM at h
        split at h <;> try exact h.elim
        rename_i m
        exact ⟨.v (.map m), w, .inl (by simp [execOp, ho, ev_eval hS h1, Instr.typeAssert, run_underlying hu, avV]), Ge.refl _ _, h⟩

/-- Is it a call of code (a function, a value, yield). -/
def callOp : Op → Bool
  | .call { callee := .value _, .. } => true
  | _ => false

/-- Every operation but a call of code. -/
theorem e_all (hY : ∀ G, yl = some G → y = yv G.L) (hT : TOk P T) (hq : callOp o.op = false) (h : vcOp P T yl o fr (hp w) al K) (hS : Sat y n fr a) : EOk P y o a w al K := by
  cases hqq : quietOp o.op with
  | true =>
    obtain ⟨x, h1, h2⟩ := q_all hT hqq h hS
    exact ⟨x, w, .inl h1, Ge.refl _ _, h2⟩
  | false =>
    cases ho : o.op <;> try (rw [ho] at hqq; cases hqq; done)
    case alloc => exact e_alloc hT ho h
    case box => exact e_box hY ho h hS
    case build => exact e_build hT ho h hS
    case buildSlice => exact e_buildSlice hT ho h hS
    case store => exact e_store hT ho h hS
    case convert => exact e_convert hT ho h hS
    case makeSlice => exact e_makeSlice hT ho h hS
    case call c =>
      cases hc : c.callee with
      | builtin b =>
        cases b with
        | append => exact e_append hT ho hc h hS
        | clear =>
          cases hm : c.argTypes.toList.any Sp.mp with
          | false => exact e_clear hT ho hc hm h hS
          | true =>
            simp only [vcOp, ho, hc] at h
            split at h <;> try exact h.elim
            rename_i args hargs
            have h := (show (bif c.argTypes.toList.any Sp.mp then BLT P .clear c.argTypes.toList o.type args (hp w) (fun v H' => liftRes T o.type v fun v' => K (.v v') H' al) else _) from h)
            simp only [hm, cond_true] at h
            exact BLT_run ho hc (evsA_eval hS hargs) h fun v w' _ h' => liftRes_elim h'
        | len =>
          cases hm : c.argTypes.toList.any Sp.mp with
          | false =>
            exfalso
            obtain ⟨ce, ar, at'⟩ := c
            simp only at hc hm
            subst hc
            rw [ho] at hqq
            simp [quietOp, hm] at hqq
          | true =>
            simp only [vcOp, ho, hc] at h
            split at h <;> try exact h.elim
            rename_i args hargs
            have h := (show (bif c.argTypes.toList.any Sp.mp then BLT P .len c.argTypes.toList o.type args (hp w) (fun v H' => liftRes T o.type v fun v' => K (.v v') H' al) else _) from h)
            simp only [hm, cond_true] at h
            exact BLT_run ho hc (evsA_eval hS hargs) h fun v w' _ h' => liftRes_elim h'
        | delete =>
          simp only [vcOp, ho, hc] at h
          split at h <;> try exact h.elim
          rename_i args hargs
          have h := (show BLT P _ c.argTypes.toList o.type args (hp w) (fun v H' => liftRes T o.type v fun v' => K (.v v') H' al) from h)
          exact BLT_run ho hc (evsA_eval hS hargs) h fun v w' _ h' => liftRes_elim h'
        | unsafeString =>
          simp only [vcOp, ho, hc] at h
          split at h <;> try exact h.elim
          rename_i args hargs
          have h := (show BLT P _ c.argTypes.toList o.type args (hp w) (fun v H' => liftRes T o.type v fun v' => K (.v v') H' al) from h)
          exact BLT_run ho hc (evsA_eval hS hargs) h fun v w' _ h' => liftRes_elim h'
        | unsafeSliceData =>
          simp only [vcOp, ho, hc] at h
          split at h <;> try exact h.elim
          rename_i args hargs
          have h := (show BLT P _ c.argTypes.toList o.type args (hp w) (fun v H' => liftRes T o.type v fun v' => K (.v v') H' al) from h)
          exact BLT_run ho hc (evsA_eval hS hargs) h fun v w' _ h' => liftRes_elim h'
        | copy =>
          simp only [vcOp, ho, hc] at h
          split at h <;> try exact h.elim
          rename_i args hargs
          have h := (show BLT P _ c.argTypes.toList o.type args (hp w) (fun v H' => liftRes T o.type v fun v' => K (.v v') H' al) from h)
          exact BLT_run ho hc (evsA_eval hS hargs) h fun v w' _ h' => liftRes_elim h'
        | _ =>
          first
          | (exfalso; obtain ⟨ce, ar, at'⟩ := c; simp only at hc; subst hc; rw [ho] at hqq; cases hqq; done)
          | (exfalso; simp only [vcOp, ho, hc] at h; split at h <;> first | exact h | (simp only [vcBuiltin] at h))
      | value f => obtain ⟨ce, ar, at'⟩ := c; simp only at hc; subst hc; rw [ho] at hq; cases hq
      | invoke f m => simp only [vcOp, ho, hc] at h
    case makeMap => exact e_map hT (by rw [ho]) h hS
    case lookup => exact e_map hT (by rw [ho]) h hS
    case mapUpdate => exact e_map hT (by rw [ho]) h hS
    case insert => exact e_map hT (by rw [ho]) h hS
    case range => exact e_map hT (by rw [ho]) h hS
    case next => exact e_map hT (by rw [ho]) h hS
    case entry => exact e_map hT (by rw [ho]) h hS
    case makeInterface => exact e_map hT (by rw [ho]) h hS
    case typeAssert => exact e_map hT (by rw [ho]) h hS
    all_goals (exfalso; simp only [vcOp, ho] at h)

end
end Go.V
namespace Go.V
set_option linter.unusedSectionVars false
variable [Sp]

def qLen (ops : Array Oper) : Nat := (ops.toList.takeWhile fun o => quietOp o.op).length

def drawB (ops : Array Oper) : Bool :=
  Region.lexB .any ops && (Nat.beq (qLen ops) ops.size || (Region.sinkB .any ops (qLen ops) && Region.chainB .any ops (qLen ops)))

def Fn (ro : Option Nat) : Fence := { Fence.wide with round := ro }

section
variable {P : Program} {ops : Array Oper} {w : World} {ro : Option Nat} {nn : Nat} {Q : Exit → Act → World → Prop}

def YAt (P : Program) (ops : Array Oper) (w : World) (o : Oper) (v : Value) (a : Act) : Prop :=
  (Region.wanted o (yielded ops a.tmps) = true ∧ (∀ c, o.op ≠ .defer c) ∧ (execOp a.eval o).run P w = .ok (.value v) w) ∨ (Region.wanted o (yielded ops a.tmps) = false ∧ v = undef)

def stF (P : Program) (ops : Array Oper) (w : World) (i : Nat) (K : Act → Prop) (a : Act) : Prop :=
  match ops[i]? with
  | none => K a
  | some o => ∃ v, YAt P ops w o v a ∧ K (a.put o.dst v)

theorem stF_mono {i : Nat} {a : Act} {K K' : Act → Prop} (h : ∀ a, K a → K' a) (hh : stF P ops w i K a) : stF P ops w i K' a := by
  unfold stF at *
  split
  · rename_i ho; rw [ho] at hh; exact h _ hh
  · rename_i o ho; rw [ho] at hh; obtain ⟨v, h1, h2⟩ := hh; exact ⟨v, h1, h _ h2⟩

theorem YAt.put {o o' : Oper} {v u : Value} {a : Act} (hs : ∀ cs b, o.op ≠ .select cs b) (h : ∀ d, o'.dst = some d → d ∉ o.looksAt ops) : YAt P ops w o v (a.put o'.dst u) ↔ YAt P ops w o v a := by
  unfold YAt
  rw [execOp_put o hs a o'.dst u h, wanted_put o a o'.dst u h]

theorem stF_put {j : Nat} {oi oj : Oper} {v : Value} (hj : ops[j]? = some oj) (hap : oi.apart ops oj = true)
    (hsi : ∀ cs b, oi.op ≠ .select cs b) (hsj : ∀ cs b, oj.op ≠ .select cs b) {K : Act → Prop} {a : Act}
    (hy : YAt P ops w oi v a) (h : stF P ops w j K (a.put oi.dst v)) :
    stF P ops w j (fun a' => YAt P ops w oi v a' ∧ K (a'.put oi.dst v)) a := by
  obtain ⟨h1, h2, h3⟩ := Oper.apart_spec hap
  unfold stF at *
  rw [hj] at *
  obtain ⟨u, hu, hk⟩ := h
  exact ⟨u, (YAt.put hsj h1).1 hu, (YAt.put hsi h3).2 hy, by rw [← Act.put_comm a v u h2]; exact hk⟩

def anyF (P : Program) (ops : Array Oper) (w : World) (m : Nat) (L : Array Bool → Act → Prop) : Nat → Array Bool → Act → Prop
  | 0, listed, a => L listed a
  | f + 1, listed, a =>
    Region.ready .any ops listed ≠ [] ∧ ∀ i ∈ Region.ready .any ops listed, i < m ∧ stF P ops w i (anyF P ops w m L f (listed.setIfInBounds i true)) a

theorem YAt.stF {i : Nat} {o : Oper} {v : Value} {a : Act} (hi : ops[i]? = some o) (hy : YAt P ops w o v a) {K : Act → Prop} (h : K (a.put o.dst v)) : stF P ops w i K a := by
  unfold V.stF
  rw [hi]
  exact ⟨v, hy, h⟩

/-- What comes up while something below m is not listed lies below m. -/
def Below' (ops : Array Oper) (m : Nat) : Prop :=
  ∀ listed : Array Bool, HeadInv .any ops m listed → ∀ i, i < m → listed.getD i true = false → ∀ j ∈ Region.ready .any ops listed, j < m

theorem below_of (m : Nat) (h : m = ops.size ∨ (m < ops.size ∧ Region.sinkB .any ops m = true ∧ Region.chainB .any ops m = true)) : Below' ops m := by
  intro listed inv i hi hun j hj
  rcases h with h | ⟨h1, h2, h3⟩
  · obtain ⟨_, o, ho, _⟩ := mem_ready.1 hj
    have := (Array.getElem?_eq_some_iff.1 ho).1
    omega
  · rcases Nat.lt_or_ge j m with h | h
    · exact h
    · exact absurd hj (tail_waits h2 h3 h1 inv _ i rfl hi hun j h)

theorem anyF_first {m i : Nat} {oi : Oper} {v : Value} {L : Array Bool → Act → Prop} (hi : ops[i]? = some oi) (hsel : ∀ (j : Nat) (o : Oper) cs b, ops[j]? = some o → o.op ≠ .select cs b)
    (hB : Below' ops m) (hin : i < m) (hdone : ∀ listed a, L listed a → ∀ j ∈ Region.ready .any ops listed, m ≤ j) :
    ∀ (f : Nat) (listed : Array Bool) (a : Act), HeadInv .any ops m listed →
      (∀ j oj, ops[j]? = some oj → j ≠ i → listed.getD j true = false → (∀ e ∈ oj.after, Region.binds .any e = true → e.on ≠ i) → oi.apart ops oj = true) →
      i ∈ Region.ready .any ops listed → YAt P ops w oi v a →
      anyF P ops w m L f (listed.setIfInBounds i true) (a.put oi.dst v) → anyF P ops w m L (f + 1) listed a := by
  intro f
  induction f with
  | zero =>
    intro listed a inv _ hr hy H
    have hun := (mem_ready.1 hr).1
    refine ⟨fun h => (by rw [h] at hr; cases hr), fun j hj => ?_⟩
    have hjm := hB listed inv i hin hun j hj
    refine ⟨hjm, ?_⟩
    by_cases hji : j = i
    · subst hji; exact hy.stF hi H
    · have := hdone _ _ H j (ready_mono hj hji)
      omega
  | succ f ih =>
    intro listed a inv hfree hr hy H
    have hun := (mem_ready.1 hr).1
    refine ⟨fun h => (by rw [h] at hr; cases hr), fun j hj => ?_⟩
    have hjm := hB listed inv i hin hun j hj
    refine ⟨hjm, ?_⟩
    by_cases hji : j = i
    · subst hji; exact hy.stF hi H
    · have h1 := (H.2 j (ready_mono hj hji)).2
      obtain ⟨hjun, oj, hoj, hall⟩ := mem_ready.1 hj
      have hnot : ∀ e ∈ oj.after, Region.binds .any e = true → e.on ≠ i := fun e he hb heq => by
        have h1 := hall e he hb
        rw [heq, getD_both hun] at h1
        cases h1
      have h2 := stF_put hoj (hfree j oj hoj hji hjun hnot) (fun cs b => hsel i oi cs b hi) (fun cs b => hsel j oj cs b hoj) hy h1
      have hfree' : ∀ k ok, ops[k]? = some ok → k ≠ i → (listed.setIfInBounds j true).getD k true = false →
          (∀ e ∈ ok.after, Region.binds .any e = true → e.on ≠ i) → oi.apart ops ok = true := fun k ok hk hki hun' hno => by
        refine hfree k ok hk hki ?_ hno
        by_cases hjk : j = k
        · subst hjk; exact hjun
        · rw [getD_set_ne true hjk] at hun'; exact hun'
      refine stF_mono (fun a' h3 => ih (listed.setIfInBounds j true) a' (inv.set hj hjm) hfree' (ready_mono hr (Ne.symm hji)) h3.1 ?_) h2
      rw [Array.setIfInBounds_comm _ _ hji]
      exact h3.2

/-- The walk in the order of the text, of operations k .. k + f - 1. -/
def lexW (P : Program) (ops : Array Oper) (w : World) (E : Act → Prop) : Nat → Nat → Act → Prop
  | 0, _, a => E a
  | f + 1, k, a => stF P ops w k (lexW P ops w E f (k + 1)) a

def firstN (m N : Nat) : Array Bool := Array.ofFn fun i : Fin N => decide (i.val < m)

theorem firstN_set (m N : Nat) (h : m < N) : (firstN m N).setIfInBounds m true = firstN (m + 1) N := by
  apply Array.ext_getElem?
  intro i
  by_cases hi : i < N
  · by_cases e : m = i
    · subst e; simp [firstN, h]
    · rw [Array.getElem?_setIfInBounds_ne e]
      simp only [firstN, Array.getElem?_ofFn, hi, dite_true]
      congr 2
      rw [eq_iff_iff]
      omega
  · rw [Array.getElem?_eq_none (by simp [firstN]; omega), Array.getElem?_eq_none (by simp [firstN]; omega)]

theorem firstN_getD (m N i : Nat) (hi : i < N) (d : Bool) : (firstN m N).getD i d = decide (i < m) := by
  simp [firstN, hi]

theorem firstN_zero (N : Nat) : firstN 0 N = Array.replicate N false := by
  apply Array.ext
  · simp [firstN]
  · intro i h1 h2; simp [firstN]

theorem anyF_lex {m : Nat} {E : Act → Prop} (hs : Region.noSelect ops = true) (hB : Below' ops m) (hm : m ≤ ops.size) {L : Array Bool → Act → Prop}
    (hL : ∀ a, E a → L (firstN m ops.size) a) (hdone : ∀ listed a, L listed a → ∀ j ∈ Region.ready .any ops listed, m ≤ j) :
    ∀ (f k g : Nat) (a : Act), k + f = m → Region.lexFrom .any ops (f + g) k (firstN k ops.size) = true → HeadInv .any ops m (firstN k ops.size) → lexW P ops w E f k a →
      anyF P ops w m L f (firstN k ops.size) a
  | 0, k, g, a, hk, _, _, h => by
    simp only [Nat.add_zero] at hk
    subst hk
    exact hL a h
  | f + 1, k, g, a, hk, hlex, inv, h => by
    have hko : k < ops.size := by omega
    obtain ⟨o, ho⟩ : ∃ o, ops[k]? = some o := ⟨ops[k], by simp [hko]⟩
    rw [show f + 1 + g = (f + g) + 1 by omega] at hlex
    simp only [Region.lexFrom, Bool.and_eq_true] at hlex
    obtain ⟨⟨hr, hf⟩, hlex'⟩ := hlex
    rw [firstN_set k ops.size hko] at hlex'
    simp only [lexW, stF, ho] at h
    obtain ⟨v, hy, hK⟩ := h
    have hr' : k ∈ Region.ready .any ops (firstN k ops.size) := by simpa using hr
    refine anyF_first ho (Region.noSelect_spec hs) hB (by omega) hdone f _ a inv (Region.free_spec ho hf) hr' hy ?_
    rw [firstN_set k ops.size hko]
    have inv' := inv.set hr' (by omega : k < m)
    rw [firstN_set k ops.size hko] at inv'
    exact anyF_lex hs hB hm hL hdone f (k + 1) g _ (by omega) hlex' inv' hK

theorem wpOpIn_of_stF {i : Nat} {a : Act} {K : Act → Prop} {K' : Act → World → Prop} (h : ∀ a, K a → K' a w) (hh : stF P ops w i K a) : wpOpIn (Fn ro) nn P ops Q i K' a w := by
  unfold stF at hh
  unfold wpOpIn
  split
  · rename_i ho; rw [ho] at hh; exact h _ hh
  · rename_i o ho
    rw [ho] at hh
    obtain ⟨v, hy, hk⟩ := hh
    rcases hy with ⟨h1, h2, h3⟩ | ⟨h1, rfl⟩
    · rw [if_pos h1]
      refine ⟨fun _ _ => trivial, ?_⟩
      rw [Oper.semAt_eq _ _ _ h2, h3]
      exact h _ hk
    · rw [if_neg (by rw [h1]; simp)]
      exact ⟨fun _ _ => trivial, h _ hk⟩

theorem wpAnyIn_of_head {m g : Nat} {L : Array Bool → Act → Prop} (hL : ∀ listed a, L listed a → wpAnyIn (Fn ro) nn P .any ops Q g listed a w) :
    ∀ (f : Nat) (listed : Array Bool) (a : Act), anyF P ops w m L f listed a → wpAnyIn (Fn ro) nn P .any ops Q (f + g) listed a w
  | 0, listed, a, h => by rw [Nat.zero_add]; exact hL _ _ h
  | f + 1, listed, a, h => by
    rw [show f + 1 + g = (f + g) + 1 by omega]
    exact ⟨fun h0 => absurd h0 h.1, fun i hi => wpOpIn_of_stF (fun a' h' => wpAnyIn_of_head hL f _ a' h') (h.2 i hi).2⟩

theorem mem_ready_firstN {k j : Nat} (h : j ∈ Region.ready .any ops (firstN k ops.size)) : k ≤ j ∧ j < ops.size := by
  obtain ⟨h1, o, ho, _⟩ := mem_ready.1 h
  have hj := (Array.getElem?_eq_some_iff.1 ho).1
  rw [firstN_getD k _ j hj] at h1
  simp at h1
  exact ⟨h1, hj⟩

/-- The tail: each waits for the one ahead of it. -/
theorem wpAnyIn_tail {m : Nat} (hc : m = ops.size ∨ Region.chainB .any ops m = true) : ∀ (f k : Nat) (a : Act) (w : World), m ≤ k → k + f = ops.size → Region.lexFrom .any ops f k (firstN k ops.size) = true →
    wpOpsIn (Fn ro) nn P ops Q (List.range' k f) a w → wpAnyIn (Fn ro) nn P .any ops Q f (firstN k ops.size) a w
  | 0, k, a, w, hk, hf, hlex, h => by
    refine ⟨?_, by simpa [wpOpsIn] using h⟩
    simpa [Region.lexFrom] using hlex
  | f + 1, k, a, w, hk, hf, hlex, h => by
    have hko : k < ops.size := by omega
    simp only [Region.lexFrom, Bool.and_eq_true] at hlex
    obtain ⟨⟨hr, _⟩, hlex'⟩ := hlex
    rw [firstN_set k ops.size hko] at hlex'
    have hr' : k ∈ Region.ready .any ops (firstN k ops.size) := by simpa using hr
    have honly : ∀ j ∈ Region.ready .any ops (firstN k ops.size), j = k := by
      intro j hj
      obtain ⟨h1, h2⟩ := mem_ready_firstN hj
      rcases Nat.eq_or_lt_of_le h1 with e | hlt
      · exact e.symm
      · exfalso
        rcases hc with hc | hc
        · omega
        · have h3 := List.all_eq_true.1 hc j (List.mem_range.2 h2)
          simp only [Bool.or_eq_true, decide_eq_true_eq] at h3
          rcases h3 with h3 | h3
          · omega
          · obtain ⟨o', ho', e, he, hb, hon⟩ := Region.waitsFor_spec h3
            obtain ⟨_, o, ho, hall⟩ := mem_ready.1 hj
            rw [ho] at ho'
            cases ho'
            have h4 := hall e he hb
            rw [hon, firstN_getD k _ (j - 1) (by omega)] at h4
            simp at h4
            omega
    refine ⟨fun h0 => (by rw [h0] at hr'; cases hr'), fun i hi => ?_⟩
    rw [honly i hi, firstN_set k ops.size hko]
    rw [List.range'_succ, wpOpsIn_cons] at h
    exact wpOpIn_mono (fun a' w' h' => wpAnyIn_tail hc f (k + 1) a' w' (by omega) (by omega) hlex' h') h

/-- **A region that draws: walked in the order of the text.** -/
theorem wp_draw {id : Nat} {a : Act} {E : Act → Prop} (hmix : P.follows .mixedOrders = true) (hd : drawB ops = true)
    (hlex : lexW P ops w.drew E (qLen ops) 0 a) (hE : ∀ a, E a → wpOpsIn (Fn ro) nn P ops Q (List.range' (qLen ops) (ops.size - qLen ops)) a w.drew) :
    (Code.region id ops true).wpIn (Fn ro) nn P Q a w := by
  refine wpIn_region_any hmix ?_
  simp only [drawB, Bool.and_eq_true, Bool.or_eq_true, Region.lexB] at hd
  obtain ⟨⟨hs, hl⟩, hq⟩ := hd
  have hm : qLen ops ≤ ops.size := by
    have := (List.takeWhile_prefix (fun o : Oper => quietOp o.op) (l := ops.toList)).length_le
    simpa [qLen] using this
  have hq' : qLen ops = ops.size ∨ (Region.sinkB .any ops (qLen ops) = true ∧ Region.chainB .any ops (qLen ops) = true) := by
    rcases hq with hq | hq
    · exact .inl (Nat.eq_of_beq_eq_true hq)
    · exact .inr hq
  have hc : qLen ops = ops.size ∨ Region.chainB .any ops (qLen ops) = true := hq'.imp (fun x => x) And.right
  have hB : Below' ops (qLen ops) := by
    apply below_of
    rcases hq' with h | h
    · exact .inl h
    · rcases Nat.eq_or_lt_of_le hm with e | hlt
      · exact .inl e
      · exact .inr ⟨hlt, h.1, h.2⟩
  rw [← firstN_zero] at hl ⊢
  -- the state behind the head
  have hlexm : ∀ (f k g : Nat), k + f + g = ops.size → Region.lexFrom .any ops (f + g) k (firstN k ops.size) = true → Region.lexFrom .any ops g (k + f) (firstN (k + f) ops.size) = true := by
    intro f
    induction f with
    | zero => intro k g _ h; simpa using h
    | succ f ih =>
      intro k g hk h
      rw [show f + 1 + g = (f + g) + 1 by omega] at h
      simp only [Region.lexFrom, Bool.and_eq_true] at h
      have h' := h.2
      rw [firstN_set k ops.size (by omega)] at h'
      have := ih (k + 1) g (by omega) h'
      rwa [show k + 1 + f = k + (f + 1) by omega] at this
  have hinv : HeadInv .any ops (qLen ops) (firstN 0 ops.size) := by
    refine ⟨by simp [firstN], fun j oj hj hl => ?_, fun t ht ht' => ?_⟩
    · rw [firstN_zero, getD_replicate_false] at hl; cases hl
    · rw [firstN_getD 0 _ t ht']; simp
  have hN : ops.size = qLen ops + (ops.size - qLen ops) := by omega
  have key := anyF_lex (P := P) (w := w.drew) (m := qLen ops) (E := E) hs hB hm (L := fun listed a => listed = firstN (qLen ops) ops.size ∧ E a) (fun a h => ⟨rfl, h⟩)
    (fun listed a h j hj => by rw [h.1] at hj; exact (mem_ready_firstN hj).1) (qLen ops) 0 (ops.size - qLen ops) a (by omega) (by rw [← hN]; exact hl) hinv hlex
  have := wpAnyIn_of_head (ro := ro) (nn := nn) (Q := Q) (g := ops.size - qLen ops) (fun listed a h => by
    rw [h.1]
    exact wpAnyIn_tail hc _ _ a _ (Nat.le_refl _) (by omega) (by have := hlexm (qLen ops) 0 (ops.size - qLen ops) (by omega) (by rw [← hN]; exact hl); simpa using this) (hE a h.2)) (qLen ops) _ a key
  rw [← hN] at this
  exact this

end
end Go.V
namespace Go.V
set_option linter.unusedSectionVars false
variable [Sp]

/-- Must i wait for j, at however many removes? -/
def reach (ops : Array Oper) : Nat → Nat → Nat → Bool
  | 0, _, _ => false
  | f + 1, i, j => match ops[i]? with
    | none => false
    | some o => o.after.toList.any fun e => Region.binds .any e && (Nat.beq e.on j || reach ops f e.on j)

def noDefB (ops : Array Oper) : Bool := ops.all fun o => match o.op with | .defer _ => false | _ => true

def isQ (ops : Array Oper) (i : Nat) : Bool :=
  match ops[i]? with
  | some o => quietOp o.op
  | none => false

/-- The order that the reckoner takes: what looks first; then each that may be next. -/
inductive Ord where
  | done
  | one (i : Nat) (t : Ord)
  | alt (i : Nat) (t : Ord) (r : Ord)
  | stop

def altsB (go : Nat → Option Ord) : List Nat → Option Ord
  | [] => some .stop
  | i :: r => match go i, altsB go r with
    | some t, some u => some (.alt i t u)
    | _, _ => none

def ordB (ops : Array Oper) : Nat → Array Bool → Option Ord
  | 0, listed => match Region.ready .any ops listed with
    | [] => some .done
    | _ => none
  | f + 1, listed => match (Region.ready .any ops listed).find? (fun i => isQ ops i && Region.free .any ops listed i) with
    | some i => match ordB ops f (listed.setIfInBounds i true) with
      | some l => some (.one i l)
      | none => none
    | none => match Region.ready .any ops listed with
      | [] => some .done
      | [i] => match ordB ops f (listed.setIfInBounds i true) with
        | some l => some (.one i l)
        | none => none
      | l => altsB (fun i => ordB ops f (listed.setIfInBounds i true)) l

def drawOrd (ops : Array Oper) : Option Ord :=
  bif Region.noSelect ops && noDefB ops then ordB ops ops.size (Array.replicate ops.size false) else none

abbrev Held := List (Nat × List (Nat × Nat × Value))

def hh1 (H : Hp) : List (Nat × Nat × Value) → Prop → Prop
  | [], F => F
  | (b, o, v) :: r, F => rd H b o = some v ∧ hh1 H r F
def hhs (H : Hp) : Held → Prop → Prop
  | [], F => F
  | (_, r) :: h, F => hh1 H r (hhs H h F)
def keepH (ops : Array Oper) (i : Nat) (h : Held) : Held := h.filter fun e => !reach ops ops.size i e.1
def addH (i : Nat) (r : List (Nat × Nat × Value)) (h : Held) : Held :=
  match r with
  | [] => h
  | r => (i, r) :: h

/-- One operation of such a region. -/
def vcDS (P : Program) (T : Tab) (yl : Option YG) (n : Nat) (ops : Array Oper) (i : Nat) (K : Held → Fr → Hp → Al → Prop) (held : Held) (fr : Fr) (H : Hp) (al : Al) : Prop :=
    match ops[i]? with
    | none => False
    | some o =>
      match o.guard with
      | none => vcOp P T yl o fr H al fun x H' al' =>
          bif quietOp o.op then setD n o.dst fr x fun fr' => K (addH i (ldCells T fr o x) held) fr' H' al'
          else hhs H' (keepH ops i held) (setD n o.dst fr x fun fr' => K (keepH ops i held) fr' H' al')
      | some (j, want) =>
        match (ops[j]?).bind (·.dst) with
        | none => False
        | some s => match fr.get s with
          | some (.v (.bool b)) => bc b
              (match want with
               | true => vcOp P T yl o ((s, .v (.bool true)) :: fr) H al fun x H' al' =>
                  bif quietOp o.op then setD n o.dst ((s, .v (.bool true)) :: fr) x fun fr' => K (addH i (ldCells T ((s, .v (.bool true)) :: fr) o x) held) fr' H' al'
                  else hhs H' (keepH ops i held) (setD n o.dst ((s, .v (.bool true)) :: fr) x fun fr' => K (keepH ops i held) fr' H' al')
               | false => setD n o.dst ((s, .v (.bool true)) :: fr) (.v undef) fun fr' => K held fr' H al)
              (match want with
               | true => setD n o.dst ((s, .v (.bool false)) :: fr) (.v undef) fun fr' => K held fr' H al
               | false => vcOp P T yl o ((s, .v (.bool false)) :: fr) H al fun x H' al' =>
                  bif quietOp o.op then setD n o.dst ((s, .v (.bool false)) :: fr) x fun fr' => K (addH i (ldCells T ((s, .v (.bool false)) :: fr) o x) held) fr' H' al'
                  else hhs H' (keepH ops i held) (setD n o.dst ((s, .v (.bool false)) :: fr) x fun fr' => K (keepH ops i held) fr' H' al'))
          | some (.v (.tuple _)) => setD n o.dst fr (.v undef) fun fr' => K held fr' H al
          | _ => False

def vcD (P : Program) (T : Tab) (yl : Option YG) (n : Nat) (ops : Array Oper) (K : Fr → Hp → Al → Prop) : Ord → Held → Fr → Hp → Al → Prop
  | .done, _, fr, H, al => K fr H al
  | .one i t, held, fr, H, al => vcDS P T yl n ops i (vcD P T yl n ops K t) held fr H al
  | .alt i t .stop, held, fr, H, al => vcDS P T yl n ops i (vcD P T yl n ops K t) held fr H al
  | .alt i t r, held, fr, H, al => vcDS P T yl n ops i (vcD P T yl n ops K t) held fr H al ∧ vcD P T yl n ops K r held fr H al
  | .stop, _, _, _, _ => True

section
variable {P : Program} {ops : Array Oper} {ro : Option Nat} {nn : Nat} {Q : Exit → Act → World → Prop}

theorem hh1_elim {H : Hp} : ∀ {r : List (Nat × Nat × Value)} {F : Prop}, hh1 H r F → HoldsH H r ∧ F
  | [], _, h => ⟨(fun _ hr => by cases hr), h⟩
  | (b, o, v) :: r, F, h => by
    obtain ⟨h1, h2⟩ := h
    obtain ⟨h3, h4⟩ := hh1_elim h2
    refine ⟨fun x hx => ?_, h4⟩
    rcases List.mem_cons.1 hx with rfl | hx
    · exact h1
    · exact h3 x hx
theorem hhs_elim {H : Hp} : ∀ {h : Held} {F : Prop}, hhs H h F → (∀ e ∈ h, HoldsH H e.2) ∧ F
  | [], _, h => ⟨(fun _ hr => by cases hr), h⟩
  | (_, r) :: hs, F, h => by
    obtain ⟨h1, h2⟩ := hh1_elim h
    obtain ⟨h3, h4⟩ := hhs_elim h2
    refine ⟨fun x hx => ?_, h4⟩
    rcases List.mem_cons.1 hx with rfl | hx
    · exact h1
    · exact h3 x hx

/-- In every world where R stands, o yields v. -/
def YA (P : Program) (ops : Array Oper) (R : List (Nat × Nat × Value)) (o : Oper) (v : Value) (a : Act) : Prop := ∀ w, HoldsH (hp w) R → YAt P ops w o v a

theorem YA.put {R : List (Nat × Nat × Value)} {o o' : Oper} {v u : Value} {a : Act} (hs : ∀ cs b, o.op ≠ .select cs b) (h : ∀ d, o'.dst = some d → d ∉ o.looksAt ops) : YA P ops R o v (a.put o'.dst u) ↔ YA P ops R o v a :=
  forall_congr' fun _ => forall_congr' fun _ => YAt.put hs h

theorem wpOpIn_putA {j : Nat} {oi oj : Oper} {v : Value} {R : List (Nat × Nat × Value)} (hj : ops[j]? = some oj) (hap : oi.apart ops oj = true)
    (hsi : ∀ cs b, oi.op ≠ .select cs b) (hsj : ∀ cs b, oj.op ≠ .select cs b) (hdj : ∀ c, oj.op ≠ .defer c)
    (hQ : ∀ c a w, ¬ Q (.panic c) a w) {K : Act → World → Prop} {a : Act} {w : World}
    (hy : YA P ops R oi v a) (h : wpOpIn (Fn ro) nn P ops Q j K (a.put oi.dst v) w) :
    wpOpIn (Fn ro) nn P ops Q j (fun a' w' => YA P ops R oi v a' ∧ K (a'.put oi.dst v) w') a w := by
  obtain ⟨h1, h2, h3⟩ := Oper.apart_spec hap
  have keep : ∀ (a : Act), YA P ops R oi v a → ∀ u, YA P ops R oi v (a.put oj.dst u) := fun a hy u => (YA.put hsi h3).2 hy
  have keepD : ∀ d, YA P ops R oi v { a with defers := d :: a.defers } := fun d => hy
  unfold wpOpIn at *
  simp only [hj] at *
  rw [wanted_put oj a oi.dst v h1, about_put oj w a oi.dst v h1] at h
  split
  · rename_i hw
    simp only [hw, if_true] at h
    unfold Oper.wpIn at *
    rw [about_put oj w a oi.dst v h1] at h
    refine ⟨h.1, ?_⟩
    have h := h.2
    rw [Oper.semAt_eq _ _ _ hdj, execOp_put oj hsj a oi.dst v h1] at h
    rw [Oper.semAt_eq _ _ _ hdj]
    generalize (execOp a.eval oj).run P w = r at *
    cases r with
    | ok x w' =>
      cases x <;> simp only [Oper.uponIn] at h ⊢
      case value u => exact ⟨keep a hy u, by rw [← Act.put_comm a v u h2]; exact h⟩
      case skip => exact ⟨keep a hy _, by rw [← Act.put_comm a v undef h2]; exact h⟩
      case defer d =>
        refine ⟨keep _ (keepD d) _, ?_⟩
        rw [← Act.put_comm _ v undef h2, ← Act.put_defers]
        exact h
      case enter f args =>
        refine ⟨h.1, CallsIn.mono h.2 fun e w'' he => ?_⟩
        cases e with
        | returned u => exact ⟨keep a hy u, by rw [← Act.put_comm a v u h2]; exact he⟩
        | panicked c => exact (hQ _ _ _ he).elim
        | outgrown => exact he
      case row row args => exact ⟨h.1, RowsIn.mono h.2 fun u w'' he => ⟨keep a hy u, by rw [← Act.put_comm a v u h2]; exact he⟩⟩
      case round l f tmps assign body =>
        refine ⟨h.1, RoundIn.mono h.2 fun e w'' he => ?_⟩
        cases e with
        | returned u => exact ⟨keep a hy u, by rw [← Act.put_comm a v u h2]; exact he⟩
        | panicked c => exact (hQ _ _ _ he).elim
        | outgrown => exact he
    | halt x w' =>
      cases x <;> simp only [Oper.uponIn] at h ⊢
      case panic u => exact (hQ _ _ _ h).elim
  · rename_i hw
    simp only [hw] at h
    exact ⟨h.1, keep a hy _, by rw [← Act.put_comm a v undef h2]; exact h.2⟩

/-- Whatever is ready may go next; what is held stands behind each operation that need not wait for it. -/
def AN (P : Program) (ops : Array Oper) (ro : Option Nat) (nn : Nat) (Q : Exit → Act → World → Prop) : Nat → Array Bool → Held → Act → World → Prop
  | 0, listed, _, a, w => Region.ready .any ops listed = [] ∧ Q .normal a w
  | f + 1, listed, held, a, w =>
    (Region.ready .any ops listed = [] → Q .normal a w) ∧
    ∀ i ∈ Region.ready .any ops listed, ∃ o, ops[i]? = some o ∧
      ((quietOp o.op = true ∧ ∃ v R, YA P ops R o v a ∧ HoldsH (hp w) R ∧ AN P ops ro nn Q f (listed.setIfInBounds i true) held (a.put o.dst v) w) ∨
       (wpOpIn (Fn ro) nn P ops Q i (fun a' w' => (∀ e ∈ keepH ops i held, HoldsH (hp w') e.2) ∧ AN P ops ro nn Q f (listed.setIfInBounds i true) (keepH ops i held) a' w') a w))

theorem AN_sub : ∀ (f : Nat) {listed : Array Bool} {held held' : Held} {a : Act} {w : World}, (∀ e ∈ held', e ∈ held) → AN P ops ro nn Q f listed held a w → AN P ops ro nn Q f listed held' a w
  | 0, _, _, _, _, _, _, h => h
  | f + 1, _, held, held', _, _, hs, h => by
    have hk : ∀ i, ∀ e ∈ keepH ops i held', e ∈ keepH ops i held := fun i e he => by
      obtain ⟨h1, h2⟩ := List.mem_filter.1 he
      exact List.mem_filter.2 ⟨hs e h1, h2⟩
    refine ⟨h.1, fun i hi => ?_⟩
    obtain ⟨o, ho, h2⟩ := h.2 i hi
    refine ⟨o, ho, ?_⟩
    rcases h2 with ⟨hq, v, R, h3, h4, h5⟩ | h2
    · exact .inl ⟨hq, v, R, h3, h4, AN_sub f hs h5⟩
    · exact .inr (wpOpIn_mono (fun a' w' h' => ⟨fun e he => h'.1 e (hk i e he), AN_sub f (hk i) h'.2⟩) h2)

def ClosedL (ops : Array Oper) (listed : Array Bool) : Prop :=
  ∀ j oj, ops[j]? = some oj → listed.getD j false = true → ∀ e ∈ oj.after, Region.binds .any e = true → listed.getD e.on false = true

theorem ClosedL.set {listed : Array Bool} {i : Nat} (h : ClosedL ops listed) (hi : i ∈ Region.ready .any ops listed) : ClosedL ops (listed.setIfInBounds i true) := by
  intro j oj hj hl e he hb
  by_cases hij : i = j
  · subst hij
    obtain ⟨_, o, ho, hall⟩ := mem_ready.1 hi
    rw [ho] at hj
    cases hj
    exact getD_set_true (hall e he hb)
  · rw [getD_set_ne false hij] at hl
    exact getD_set_true (h j oj hj hl e he hb)

theorem reach_listed {listed : Array Bool} (hc : ClosedL ops listed) : ∀ (f i j : Nat), (∀ o, ops[i]? = some o → ∀ e ∈ o.after, Region.binds .any e = true → listed.getD e.on false = true) → reach ops f i j = true → listed.getD j false = true
  | 0, _, _, _, h => by cases h
  | f + 1, i, j, hi, h => by
    unfold reach at h
    split at h
    · cases h
    · rename_i o ho
      obtain ⟨e, he, h⟩ := List.any_eq_true.1 h
      simp only [Bool.and_eq_true, Bool.or_eq_true] at h
      have hl := hi o ho e (by simpa using he) h.1
      rcases h.2 with h2 | h2
      · rw [← Nat.eq_of_beq_eq_true h2]; exact hl
      · exact reach_listed hc f e.on j (fun o' ho' e' he' hb' => hc _ _ ho' hl e' he' hb') h2

theorem keepH_cons {i c : Nat} {R : List (Nat × Nat × Value)} {held : Held} (h : reach ops ops.size i c = false) : keepH ops i ((c, R) :: held) = (c, R) :: keepH ops i held := by
  unfold keepH
  rw [List.filter_cons, h]; rfl

/-- What looks may as well go first. -/
theorem AN_first {c : Nat} {oc : Oper} {v : Value} {R : List (Nat × Nat × Value)} (hc : ops[c]? = some oc) (hqc : quietOp oc.op = true) (hsel : ∀ (j : Nat) (o : Oper) cs b, ops[j]? = some o → o.op ≠ .select cs b)
    (hdef : ∀ (j : Nat) (o : Oper) cl, ops[j]? = some o → o.op ≠ .defer cl) (hQ : ∀ c a w, ¬ Q (.panic c) a w) :
    ∀ (f : Nat) (listed : Array Bool) (held : Held) (a : Act) (w : World), ClosedL ops listed →
      (∀ j oj, ops[j]? = some oj → j ≠ c → listed.getD j true = false → (∀ e ∈ oj.after, Region.binds .any e = true → e.on ≠ c) → oc.apart ops oj = true) →
      c ∈ Region.ready .any ops listed → YA P ops R oc v a → HoldsH (hp w) R →
      AN P ops ro nn Q f (listed.setIfInBounds c true) ((c, R) :: held) (a.put oc.dst v) w → AN P ops ro nn Q (f + 1) listed held a w := by
  intro f
  induction f with
  | zero =>
    intro listed held a w hcl hfree hr hy hR H
    refine ⟨fun h => (by rw [h] at hr; cases hr), fun i hi => ?_⟩
    by_cases hic : i = c
    · subst hic; exact ⟨oc, hc, .inl ⟨hqc, v, R, hy, hR, H⟩⟩
    · have := ready_mono hi hic
      rw [H.1] at this
      cases this
  | succ f ih =>
    intro listed held a w hcl hfree hr hy hR H
    have hun := (mem_ready.1 hr).1
    refine ⟨fun h => (by rw [h] at hr; cases hr), fun i hi => ?_⟩
    by_cases hic : i = c
    · subst hic; exact ⟨oc, hc, .inl ⟨hqc, v, R, hy, hR, AN_sub _ (fun e he => List.mem_cons_of_mem _ he) H⟩⟩
    · obtain ⟨oi, hoi, h2⟩ := H.2 i (ready_mono hi hic)
      obtain ⟨hiun, oi', hoi', hall⟩ := mem_ready.1 hi
      have e : oi' = oi := by rw [hoi] at hoi'; exact (Option.some.inj hoi').symm
      subst e
      have hnot : ∀ e ∈ oi'.after, Region.binds .any e = true → e.on ≠ c := fun e he hb heq => by
        have h1 := hall e he hb
        rw [heq, getD_both hun] at h1
        cases h1
      have hap := hfree i oi' hoi hic hiun hnot
      obtain ⟨a1, a2, a3⟩ := Oper.apart_spec hap
      have hfree' : ∀ k ok, ops[k]? = some ok → k ≠ c → (listed.setIfInBounds i true).getD k true = false →
          (∀ e ∈ ok.after, Region.binds .any e = true → e.on ≠ c) → oc.apart ops ok = true := fun k ok hk hkc hun' hno => by
        refine hfree k ok hk hkc ?_ hno
        by_cases hik : i = k
        · subst hik; exact hiun
        · rw [getD_set_ne true hik] at hun'; exact hun'
      refine ⟨oi', hoi, ?_⟩
      rcases h2 with ⟨hq, vi, Ri, h3, h4, h5⟩ | h2
      · refine .inl ⟨hq, vi, Ri, (YA.put (fun cs b => hsel i oi' cs b hoi) a1).1 h3, h4, ?_⟩
        refine ih (listed.setIfInBounds i true) held _ w (hcl.set hi) hfree' (ready_mono hr (Ne.symm hic)) ((YA.put (fun cs b => hsel c oc cs b hc) a3).2 hy) hR ?_
        rw [Array.setIfInBounds_comm _ _ hic, ← Act.put_comm a v vi a2]
        exact h5
      · have hnr : reach ops ops.size i c = false := by
          cases hrc : reach ops ops.size i c with
          | false => rfl
          | true =>
            have := reach_listed hcl ops.size i c (fun o ho e he hb => by rw [hoi] at ho; cases ho; exact hall e he hb) hrc
            rw [getD_both hun] at this
            cases this
        rw [keepH_cons hnr] at h2
        refine .inr (wpOpIn_mono (fun a' w' h3 => ?_) (wpOpIn_putA hoi hap (fun cs b => hsel c oc cs b hc) (fun cs b => hsel i oi' cs b hoi) (fun cl => hdef i oi' cl hoi) hQ hy h2))
        obtain ⟨hy', hk, hA⟩ := h3
        refine ⟨fun e he => hk e (List.mem_cons_of_mem _ he), ?_⟩
        refine ih (listed.setIfInBounds i true) _ a' w' (hcl.set hi) hfree' (ready_mono hr (Ne.symm hic)) hy' (hk (c, R) (List.mem_cons_self ..)) ?_
        rw [Array.setIfInBounds_comm _ _ hic]
        exact hA

theorem wpOpIn_of_YA {i : Nat} {o : Oper} {v : Value} {R : List (Nat × Nat × Value)} {a : Act} {w : World} {K : Act → World → Prop} (ho : ops[i]? = some o) (hy : YA P ops R o v a) (hR : HoldsH (hp w) R) (h : K (a.put o.dst v) w) :
    wpOpIn (Fn ro) nn P ops Q i K a w :=
  wpOpIn_of_stF (w := w) (K := fun a' => K a' w) (fun _ h => h) ((hy w hR).stF ho h)

theorem wpAnyIn_of_AN : ∀ (f : Nat) (listed : Array Bool) (held : Held) (a : Act) (w : World), AN P ops ro nn Q f listed held a w → wpAnyIn (Fn ro) nn P .any ops Q f listed a w
  | 0, _, _, _, _, h => h
  | f + 1, listed, held, a, w, h => by
    refine ⟨h.1, fun i hi => ?_⟩
    obtain ⟨o, ho, h2⟩ := h.2 i hi
    rcases h2 with ⟨_, v, R, h3, h4, h5⟩ | h2
    · exact wpOpIn_of_YA ho h3 h4 (wpAnyIn_of_AN f _ held _ _ h5)
    · exact wpOpIn_mono (fun a' w' h' => wpAnyIn_of_AN f _ _ a' w' h'.2) h2

theorem noDef_spec (h : noDefB ops = true) (j : Nat) (o : Oper) (c : Call) (ho : ops[j]? = some o) : o.op ≠ .defer c := by
  intro heq
  have := Array.all_eq_true_iff_forall_mem.1 h o (Array.mem_of_getElem? ho)
  simp [heq] at this
end
end Go.V
namespace Go.V
set_option linter.unusedSectionVars false
variable [Sp]

abbrev KT := Exit → Fr → Hp → Al → Prop

def vcReg (P : Program) (T : Tab) (yl : Option YG) (n : Nat) (ops : Array Oper) (draw : Bool) (fr : Fr) (H : Hp) (al : Al) (K : Fr → Hp → Al → Prop) : Prop :=
  match draw with
  | false => vcOps P T yl n ops K (List.range' 0 ops.size) fr H al
  | true => bif drawB ops then vcOps P T yl n ops K (List.range' 0 ops.size) fr H al
    else match drawOrd ops with
      | some l => vcD P T yl n ops K l [] fr H al
      | none => False

/-- Where a round's body is left. -/
def exK (js : List Exit) (Kb : Al → Hp → Prop) (e : Exit) (H : Hp) (al : Al) : Prop :=
  match e with
  | .normal => match al with
    | .on => Kb .on H
    | _ => False
  | e => match idxE js e with
    | some j => Kb (.off j al) H
    | none => False

def vc (P : Program) (T : Tab) (A : Ann) (yl : Option YG) (n : Nat) : Code → Nat → Fr → Hp → Al → KT → Prop
  | .skip, _, fr, H, al, K => K .normal fr H al
  | .label _, _, fr, H, al, K => K .normal fr H al
  | .region _ ops draw, _, fr, H, al, K => vcReg P T yl n ops draw fr H al fun fr' H' al' => K .normal fr' H' al'
  | .seq a b, bid, fr, H, al, K => vc P T A yl n a bid fr H al fun e fr' H' al' => match e with
    | .normal => vc P T A yl n b bid fr' H' al' K
    | e => K e fr' H' al'
  | .cond c x y, bid, fr, H, al, K => match ev fr c with
    | some (.bool t) => bc t (vc P T A yl n x bid fr H al K) (vc P T A yl n y bid fr H al K)
    | _ => False
  | .block id c, _, fr, H, al, K => vc P T A yl n c id fr H al fun e fr' H' al' => match e with
    | .exit id' => bif Nat.beq id' id then K .normal fr' H' al' else K (.exit id') fr' H' al'
    | e => K e fr' H' al'
  | .scope c, bid, fr, H, al, K => vc P T A yl n c bid fr H al fun e fr' H' al' => match e with
    | .goto _ => False
    | e => K e fr' H' al'
  | .exit id, _, fr, H, al, K => K (.exit id) fr H al
  | .ret, _, fr, H, al, K => K .ret fr H al
  | .loop c, bid, fr, H, al, K => match lookN A.loops bid, al with
    | some vars, .on => bif vars.all (fun p => (mods c).any (Nat.beq p.1)) then ∃ (I : FT (shsOf vars) (Hp → Prop)) (μ : FT (shsOf vars) (Hp → Nat)),
        (match getVals fr (vars.map (·.1)) with
         | some vs => match flatV vars vs with
           | some fs => appP I fs H
           | none => False
         | none => False) ∧
        FT.all (shsOf vars) fun fs => ∀ H1, appP I fs H1 →
          vc P T A yl n c bid (Fr.setAll (fr.drop (mods c)) (vars.map (·.1)) (unflat vars fs)) H1 .on fun e fr' H' al' => match e with
            | .normal => match al' with
              | .on => match getVals fr' (vars.map (·.1)) with
                | some vs' => match flatV vars vs' with
                  | some fs' => appP I fs' H' ∧ appN μ fs' H' < appN μ fs H1
                  | none => False
                | none => False
              | _ => False
            | e => K e fr' H' al'
      else False
    | _, _ => False
  | .rangeFunc f ps as body, bid, fr, H, al, K => match al, ev fr f, parSh A ps.toList with
    | .on, some g, some shs => bif ps.toList.all (fun p => Nat.blt p n) then ITERV P g H
        (fun vals H1 Kb => liftWs shs vals fun vals => vc P T A yl n as bid (Fr.setAll fr ps.toList vals) H1 .on fun e fr1 H2 al2 => match e, al2 with
          | .normal, .on => vc P T A yl n body bid fr1 H2 .on fun e _ H3 al3 => exK (jmps body) Kb e H3 al3
          | _, _ => False)
        (fun al' H' => match al' with
          | .on => K .normal fr H' .on
          | .off j up => selJ (jmps body) j fun e => K e fr H' up)
        else False
    | _, _, _ => False
  | _, _, _, _, _, _ => False

/-! ### What is known of the machine between two steps -/
structure Sys (P : Program) (B C : Nat) (Inv : Al → World → Prop) (y : Value) (yl : Option YG) : Prop where
  le : B ≤ C
  st : ∀ al w w', Inv al w → Lt C w w' → Inv al w'
  yv : ∀ G, yl = some G → y = Go.V.yv G.L ∧ YOk P G.L G.g B Inv

def markOf (r : Nat) : Deferred := { target := .collected r, args := #[] }

def Dfs (C : Nat) (ds : List Deferred) (w : World) : Prop :=
  ∃ rs : List Nat, ds = rs.map markOf ∧ rs.Nodup ∧ ∀ r ∈ rs, C ≤ r ∧ w.heap[r]? = some (.deferred (some []))

structure Ctx (ro : Option (Nat × Loop)) (B C : Nat) (Inv : Al → World → Prop) (al : Al) (ds : List Deferred) (w : World) : Prop where
  inv : Inv al w
  size : C ≤ w.heap.size
  dfs : Dfs C ds w
  rok : ∀ l r, ro = some (l, r) → B ≤ l ∧ w.heap[l]? = some (.loop r)
  rod : ∀ x, ro = some x → ds = []

theorem hp_deferred {w : World} {r : Nat} {x : Option (List Deferred)} (h : w.heap[r]? = some (.deferred x)) : hp w r = none := by simp [hp, h, objB]
theorem hp_loop {w : World} {r : Nat} {x : Loop} (h : w.heap[r]? = some (.loop x)) : hp w r = none := by simp [hp, h, objB]
theorem lt_of_heap {w : World} {r : Nat} {x : Obj} (h : w.heap[r]? = some x) : r < w.heap.size := (Array.getElem?_eq_some_iff.1 h).1

section
variable {P : Program} {T : Tab} {A : Ann} {yl : Option YG} {y : Value} {n nn : Nat} {B C : Nat} {Inv : Al → World → Prop} {ro : Option (Nat × Loop)} {ds : List Deferred}

theorem Dfs.ge {w w' : World} (hBC : B ≤ C) (h : Dfs C ds w) (hg : Ge B w w') : Dfs C ds w' := by
  obtain ⟨rs, h1, h2, h3⟩ := h
  refine ⟨rs, h1, h2, fun r hr => ?_⟩
  obtain ⟨a, b⟩ := h3 r hr
  exact ⟨a, by rw [hg.keep r (Nat.le_trans hBC a) (lt_of_heap b) (hp_deferred b)]; exact b⟩

theorem Ctx.ge (S : Sys P B C Inv y yl) {al al' : Al} {w w' : World} (h : Ctx ro B C Inv al ds w) (hi : Inv al' w') (hg : Ge B w w') : Ctx ro B C Inv al' ds w' :=
  ⟨hi, Nat.le_trans h.size hg.size, h.dfs.ge S.le hg, fun l r e => by
    obtain ⟨a, b⟩ := h.rok l r e
    exact ⟨a, by rw [hg.keep l a (lt_of_heap b) (hp_loop b)]; exact b⟩, h.rod⟩

theorem Ctx.ge0 (S : Sys P B C Inv y yl) {al : Al} {w w' : World} (h : Ctx ro B C Inv al ds w) (hg : Ge 0 w w') : Ctx ro B C Inv al ds w' :=
  h.ge S (S.st _ _ _ h.inv hg.lt) (hg.mono (Nat.zero_le _))

/-- What a piece of code leaves. -/
def QQ (y : Value) (n : Nat) (ro : Option (Nat × Loop)) (B C : Nat) (Inv : Al → World → Prop) (K : KT) : Exit → Act → World → Prop :=
  fun e a w => ∃ fr al, Sat y n fr a ∧ K e fr (hp w) al ∧ Ctx ro B C Inv al a.defers w

theorem setD_elim {d : Option Tmp} {fr : Fr} {x : AV} {K : Fr → Prop} {a : Act} (h : setD n d fr x K) (hS : Sat y n fr a) : ∃ fr', Sat y n fr' (a.put d (avV y x)) ∧ K fr' := by
  cases d with
  | none => exact ⟨fr, hS, h⟩
  | some d =>
    simp only [setD] at h
    cases hb : Nat.blt d n with
    | false => rw [hb] at h; exact h.elim
    | true =>
      rw [hb] at h
      exact ⟨_, hS.cons (by simpa [Nat.blt_eq] using hb) x _ rfl, h⟩

theorem put_defers (a : Act) (d : Option Tmp) (v : Value) : (a.put d v).defers = a.defers := by cases d <;> rfl

theorem CallV_elim {f : Value} {args : List Value} {H : Hp} {K : Value → Hp → Prop} (h : CallV P f args H K) :
    ∃ k first cap, f = .func (.func k) first cap ∧ CallH P k (first.toList ++ (args ++ cap.toList)) H K := by
  unfold CallV at h
  split at h <;> try exact h.elim
  exact ⟨_, _, _, rfl, h⟩

theorem ITERV_elim {f : Value} {H : Hp} {G : GT} {K : Al → Hp → Prop} (h : ITERV P f H G K) :
    ∃ k first cap, f = .func (.func k) first cap ∧ ITER P k first.toList cap.toList H G K := by
  unfold ITERV at h
  split at h <;> try exact h.elim
  exact ⟨_, _, _, rfl, h⟩

theorem run_callFunc {k : FuncId} {args : Array Value} {w : World} (h : Ent P k) : (callFunc k args).run P w = .ok (.enter k args) w := by
  obtain ⟨fn, hf, hb, hn⟩ := h
  have hb' : ¬ fn.body = none := by intro e; rw [e] at hb; cases hb
  have hn' : ¬ fn.name = "runtime.NumGoroutine" := by intro e; rw [e] at hn; simp at hn
  simp [callFunc, hf, hn', hb']

/-- An operation that is not passed over: what the walk asks. -/
theorem op_sound (S : Sys P B C Inv y yl) (hT : TOk P T) {o : Oper} {fr : Fr} {a : Act} {w : World} {al : Al} {K : AV → Hp → Al → Prop} {next : Act → World → Prop} {Q : Exit → Act → World → Prop}
    (h : vcOp P T yl o fr (hp w) al K) (hS : Sat y n fr a) (hC : Ctx ro B C Inv al a.defers w)
    (hnext : ∀ x w' al', K x (hp w') al' → Ctx ro B C Inv al' a.defers w' → next (a.put o.dst (avV y x)) w') :
    o.wpIn (Fn (ro.map (·.1))) nn P a w next Q := by
  refine ⟨fun _ _ => trivial, ?_⟩
  cases hq : callOp o.op with
  | false =>
    obtain ⟨x, w', hr, hg, hk⟩ := e_all (fun G hG => (S.yv G hG).1) hT hq h hS
    have hnd : ∀ c, o.op ≠ .defer c := by
      intro c hc
      simp only [vcOp, hc] at h
    rw [Oper.semAt_eq _ _ _ hnd]
    rcases hr with hr | ⟨hr, hx⟩
    · rw [hr]; exact hnext x w' al hk (hC.ge0 S hg)
    · rw [hr]
      have := hnext x w' al hk (hC.ge0 S hg)
      rw [hx] at this
      exact this
  | true =>
    cases ho : o.op <;> rw [ho] at hq <;> try (cases hq; done)
    rename_i c
    have hnd : ∀ c, o.op ≠ .defer c := by intro c' hc'; rw [ho] at hc'; cases hc'
    rw [Oper.semAt_eq _ _ _ hnd]
    cases hc : c.callee with
    | builtin b => obtain ⟨ce, ar, at'⟩ := c; simp only at hc; subst hc; cases hq
    | invoke f m => obtain ⟨ce, ar, at'⟩ := c; simp only at hc; subst hc; cases hq
    | value f =>
      simp only [vcOp, ho, hc] at h
      split at h <;> try exact h.elim
      · rename_i g args hg hargs
        have hag := evA_eval hS hg
        simp only [avV] at hag
        have haa := evsA_eval hS hargs
        have h' : (CallV P g args (hp w) fun v H' => liftRes T o.type v fun v' => K (.v v') H' al) ∨ (∃ G, yl = some G ∧ al = .on ∧ g = yv G.L ∧ G.g args (hp w) fun al' H' => match al' with
            | .on => K (.v (.bool true)) H' .on
            | .off j up => K (.v (.bool false)) H' (.off j up)) := by
          split at h
          · rename_i G
            cases hf : isF f with
            | true => rw [hf] at h; exact .inl h
            | false =>
              rw [hf] at h
              rcases h with ⟨h1, h2⟩ | h
              · exact .inr ⟨G, rfl, rfl, h1, h2⟩
              · exact .inl h
          · exact .inl h
        clear h
        rcases h' with h | ⟨G, hyl, rfl, hgL, h⟩
        · obtain ⟨k, first, cap, rfl, hch⟩ := CallV_elim h
          rcases hch w rfl with ⟨hent, hcall⟩ | ⟨_, hx⟩
          rotate_left
          · obtain ⟨v, w', hr, hk, hge⟩ := hx
            have hrun : (execOp a.eval o).run P w = .ok (.value v) w' := by
              simp only [execOp, ho, resolve, hc, hag, haa, Deferred.ofValue]
              simp only [pure_bind, invoke]
              rw [← hr]
              congr 2
              apply Array.ext'
              simp
            rw [hrun]
            exact hnext (.v v) w' al (liftRes_elim hk) (hC.ge0 S hge)
          have hrun : (execOp a.eval o).run P w = .ok (.enter k ⟨first.toList ++ (args ++ cap.toList)⟩) w := by
            simp only [execOp, ho, resolve, hc, hag, haa, Deferred.ofValue]
            simp only [pure_bind, invoke]
            rw [run_callFunc hent]
            congr 2
            apply Array.ext'
            simp
          rw [hrun]
          refine ⟨fun hd => (by cases hd), callsIn_wide.2 (hcall.mono ?_)⟩
          rintro e w' ⟨v, rfl, hk, hge⟩
          exact hnext (.v v) w' al (liftRes_elim hk) (hC.ge0 S hge)
        · obtain ⟨_, hY⟩ := S.yv G hyl
          obtain ⟨fn, tmps, as, body, hy1, hy2⟩ := hY args _ w hC.inv h
          have hrun : (execOp a.eval o).run P w = .ok (.round G.L fn tmps as body) w := by
            simp only [execOp, ho, resolve, hc, hag, haa, hgL, yv, Deferred.ofValue]
            simp only [pure_bind, invoke]
            have e : (#[] ++ (⟨args⟩ : Array Value)) = ⟨args⟩ := by apply Array.ext'; simp
            rw [e]
            exact hy1
          rw [hrun]
          refine ⟨fun hd => (by cases hd), ?_⟩
          refine ⟨trivial, fun c' cs' _ => ?_⟩
          obtain ⟨e, w', hR, hcm⟩ := hy2.2 c' cs' (room_wide _)
          refine ⟨e, w', ?_, hcm⟩
          obtain ⟨al', rfl, hk, hi, hge⟩ := hR
          cases al' with
          | on => exact hnext _ w' .on hk (hC.ge S hi hge)
          | off j up => exact hnext _ w' (.off j up) hk (hC.ge S hi hge)
      · rename_i args hg hargs
        have hag := evA_eval hS hg
        simp only [avV] at hag
        have haa := evsA_eval hS hargs
        cases hyl : yl with
        | none => rw [hyl] at h; exact h.elim
        | some G =>
          rw [hyl] at h
          cases al with
          | off e up => exact h.elim
          | on =>
            obtain ⟨hyL, hY⟩ := S.yv G hyl
            obtain ⟨fn, tmps, as, body, hy1, hy2⟩ := hY args _ w hC.inv h
            have hrun : (execOp a.eval o).run P w = .ok (.round G.L fn tmps as body) w := by
              simp only [execOp, ho, resolve, hc, hag, haa, hyL, yv, Deferred.ofValue]
              simp only [pure_bind, invoke]
              have e : (#[] ++ (⟨args⟩ : Array Value)) = ⟨args⟩ := by apply Array.ext'; simp
              rw [e]
              exact hy1
            rw [hrun]
            refine ⟨fun hd => (by cases hd), ?_⟩
            refine ⟨trivial, fun c' cs' _ => ?_⟩
            obtain ⟨e, w', hR, hcm⟩ := hy2.2 c' cs' (room_wide _)
            refine ⟨e, w', ?_, hcm⟩
            obtain ⟨al', rfl, hk, hi, hge⟩ := hR
            cases al' with
            | on => exact hnext _ w' .on hk (hC.ge S hi hge)
            | off j up => exact hnext _ w' (.off j up) hk (hC.ge S hi hge)

end
end Go.V
namespace Go.V
set_option linter.unusedSectionVars false
variable [Sp]
section
variable {P : Program} {T : Tab} {A : Ann} {yl : Option YG} {y : Value} {n nn : Nat} {B C : Nat} {Inv : Al → World → Prop} {ro : Option (Nat × Loop)}

/-- The frames agree but at some slots. -/
def Agr (ms : List Nat) (fr fr' : Fr) : Prop := ∀ i, i ∉ ms → fr'.get i = fr.get i

theorem Agr.refl (ms : List Nat) (fr : Fr) : Agr ms fr fr := fun _ _ => rfl
theorem Agr.trans {ms : List Nat} {a b c : Fr} (h : Agr ms a b) (h' : Agr ms b c) : Agr ms a c := fun i hi => (h' i hi).trans (h i hi)
theorem Agr.mono {ms ms' : List Nat} {a b : Fr} (h : Agr ms a b) (hm : ∀ i, i ∈ ms → i ∈ ms') : Agr ms' a b := fun i hi => h i fun e => hi (hm i e)
theorem Agr.cons {ms : List Nat} {fr : Fr} {d : Nat} (hd : d ∈ ms) (x : AV) : Agr ms fr ((d, x) :: fr) := fun i hi => by
  have hne : Nat.beq d i = false := by
    cases h : Nat.beq d i with
    | false => rfl
    | true => exact absurd (Nat.eq_of_beq_eq_true h ▸ hd) hi
  simp [Fr.get, hne]

theorem dst_mods {ops : Array Oper} {j s : Nat} (h : (ops[j]?).bind (·.dst) = some s) : s ∈ opsMods ops.toList := by
  cases ho : ops[j]? with
  | none => rw [ho] at h; cases h
  | some o =>
    rw [ho] at h
    exact List.mem_filterMap.2 ⟨o, Array.mem_toList_iff.2 (Array.mem_of_getElem? ho), h⟩

theorem setD_agr {ops : Array Oper} {i : Nat} {o : Oper} (ho : ops[i]? = some o) {fr : Fr} {x : AV} {K : Fr → Prop} {a : Act} (h : setD n o.dst fr x K) (hS : Sat y n fr a) :
    ∃ fr', Sat y n fr' (a.put o.dst (avV y x)) ∧ Agr (opsMods ops.toList) fr fr' ∧ K fr' := by
  cases hd : o.dst with
  | none => rw [hd] at h; exact ⟨fr, hS, Agr.refl _ _, h⟩
  | some d =>
    rw [hd] at h
    simp only [setD] at h
    cases hb : Nat.blt d n with
    | false => rw [hb] at h; exact h.elim
    | true =>
      rw [hb] at h
      exact ⟨_, hS.cons (by simpa [Nat.blt_eq] using hb) x _ rfl, Agr.cons (dst_mods (j := i) (by rw [ho]; exact hd)) x, h⟩

theorem wanted_of {ops : Array Oper} {o : Oper} {a : Act} {j : Nat} {want : Bool} (hg : o.guard = some (j, want)) {s : Nat} (hs : (ops[j]?).bind (·.dst) = some s) {b : Bool} (hb : a.tmps[s]? = some (.bool b)) :
    Region.wanted o (yielded ops a.tmps) = (b == want) := by
  simp only [Region.wanted, hg, yielded, hs, Option.bind_some, hb]
  cases b <;> cases want <;> rfl

theorem wanted_not {ops : Array Oper} {o : Oper} {a : Act} {j : Nat} {want : Bool} (hg : o.guard = some (j, want)) {s : Nat} (hs : (ops[j]?).bind (·.dst) = some s) {vs : Array Value} (hb : a.tmps[s]? = some (.tuple vs)) :
    Region.wanted o (yielded ops a.tmps) = false := by
  simp [Region.wanted, hg, yielded, hs, hb]

/-- One operation at the head of a list, as 'vcOps' has it: it runs, or it is passed over. -/
theorem vcOps_step {ops : Array Oper} {KK : Fr → Hp → Al → Prop} {i : Nat} {rest : List Nat} {fr : Fr} {H : Hp} {al : Al} {a : Act}
    (h : vcOps P T yl n ops KK (i :: rest) fr H al) (hS : Sat y n fr a) :
    ∃ o, ops[i]? = some o ∧ ∃ fr', Sat y n fr' a ∧ Agr (opsMods ops.toList) fr fr' ∧
      ((Region.wanted o (yielded ops a.tmps) = true ∧ vcOp P T yl o fr' H al fun x H' al' => setD n o.dst fr' x fun fr'' => vcOps P T yl n ops KK rest fr'' H' al') ∨
       (Region.wanted o (yielded ops a.tmps) = false ∧ setD n o.dst fr' (.v undef) fun fr'' => vcOps P T yl n ops KK rest fr'' H al)) := by
  simp only [vcOps] at h
  split at h <;> try exact h.elim
  rename_i o ho
  refine ⟨o, ho, ?_⟩
  split at h
  · rename_i hg
    exact ⟨fr, hS, Agr.refl _ _, .inl ⟨by simp [Region.wanted, hg], h⟩⟩
  · rename_i j want hg
    split at h <;> try exact h.elim
    rename_i s hs
    split at h <;> try exact h.elim
    · rename_i b hb
      have hcell := hS.2 s _ hb
      simp only [avV] at hcell
      have hw := wanted_of hg hs hcell
      rcases bc_elim h with ⟨rfl, h⟩ | ⟨rfl, h⟩
      · cases want with
        | true => exact ⟨_, hS.lit hb, Agr.cons (dst_mods hs) _, .inl ⟨by rw [hw]; rfl, h⟩⟩
        | false => exact ⟨_, hS.lit hb, Agr.cons (dst_mods hs) _, .inr ⟨by rw [hw]; rfl, h⟩⟩
      · cases want with
        | true => exact ⟨_, hS.lit hb, Agr.cons (dst_mods hs) _, .inr ⟨by rw [hw]; rfl, h⟩⟩
        | false => exact ⟨_, hS.lit hb, Agr.cons (dst_mods hs) _, .inl ⟨by rw [hw]; rfl, h⟩⟩
    · rename_i vs hb
      have hcell := hS.2 s _ hb
      simp only [avV] at hcell
      exact ⟨fr, hS, Agr.refl _ _, .inr ⟨wanted_not hg hs hcell, h⟩⟩

theorem vcOps_sound (S : Sys P B C Inv y yl) (hT : TOk P T) {ops : Array Oper} {KK : Fr → Hp → Al → Prop} {Q : Exit → Act → World → Prop} {fr0 : Fr}
    (hQ : ∀ fr a al w, Sat y n fr a → KK fr (hp w) al → Ctx ro B C Inv al a.defers w → Agr (opsMods ops.toList) fr0 fr → Q .normal a w) :
    ∀ (l : List Nat) (fr : Fr) (al : Al) (a : Act) (w : World), vcOps P T yl n ops KK l fr (hp w) al → Sat y n fr a → Ctx ro B C Inv al a.defers w → Agr (opsMods ops.toList) fr0 fr →
      wpOpsIn (Fn (ro.map (·.1))) nn P ops Q l a w
  | [], fr, al, a, w, h, hS, hC, hA => hQ fr a al w hS h hC hA
  | i :: rest, fr, al, a, w, h, hS, hC, hA => by
    obtain ⟨o, ho, fr', hS', hA', h⟩ := vcOps_step h hS
    simp only [wpOpsIn, ho]
    rcases h with ⟨hw, h⟩ | ⟨hw, h⟩
    · rw [if_pos hw]
      refine op_sound S hT h hS' hC fun x w' al' hk hC' => ?_
      obtain ⟨fr'', hS'', hA'', hk⟩ := setD_agr ho hk hS'
      exact vcOps_sound S hT hQ rest fr'' al' _ w' hk hS'' (by rw [put_defers]; exact hC') ((hA.trans hA').trans hA'')
    · rw [if_neg (by rw [hw]; simp)]
      obtain ⟨fr'', hS'', hA'', hk⟩ := setD_agr ho h hS'
      exact ⟨fun _ _ => trivial, vcOps_sound S hT hQ rest fr'' al _ w hk hS'' (by rw [put_defers]; exact hC) ((hA.trans hA').trans hA'')⟩

/-- Quiet operations k .. k + f - 1, walked in the order of the text. -/
theorem vcOps_lexW (hT : TOk P T) {ops : Array Oper} {KK : Fr → Hp → Al → Prop} {w : World} {g : Nat} {fr0 : Fr} : ∀ (f k : Nat) (fr : Fr) (al : Al) (a : Act), Agr (opsMods ops.toList) fr0 fr →
    (∀ j o, k ≤ j → j < k + f → ops[j]? = some o → quietOp o.op = true) → vcOps P T yl n ops KK (List.range' k (f + g)) fr (hp w) al → Sat y n fr a →
      lexW P ops w (fun a' => a'.defers = a.defers ∧ ∃ fr', Sat y n fr' a' ∧ Agr (opsMods ops.toList) fr0 fr' ∧ vcOps P T yl n ops KK (List.range' (k + f) g) fr' (hp w) al) f k a
  | 0, k, fr, al, a, hA, _, h, hS => ⟨rfl, fr, hS, hA, by simpa using h⟩
  | f + 1, k, fr, al, a, hA, hq, h, hS => by
    rw [show f + 1 + g = (f + g) + 1 by omega, List.range'_succ] at h
    obtain ⟨o, ho, fr', hS', hA', h⟩ := vcOps_step h hS
    have hqo := hq k o (Nat.le_refl _) (by omega) ho
    simp only [lexW, stF, ho]
    have go : ∀ (v : AV), (setD n o.dst fr' v fun fr'' => vcOps P T yl n ops KK (List.range' (k + 1) (f + g)) fr'' (hp w) al) →
        lexW P ops w (fun a' => a'.defers = a.defers ∧ ∃ fr', Sat y n fr' a' ∧ Agr (opsMods ops.toList) fr0 fr' ∧ vcOps P T yl n ops KK (List.range' (k + (f + 1)) g) fr' (hp w) al) f (k + 1) (a.put o.dst (avV y v)) := by
      intro v hk
      obtain ⟨fr'', hS'', hA'', hk⟩ := setD_agr ho hk hS'
      have := vcOps_lexW hT f (k + 1) fr'' al _ ((hA.trans hA').trans hA'') (fun j o h1 h2 => hq j o (by omega) (by omega)) hk hS''
      rw [put_defers, show k + 1 + f = k + (f + 1) by omega] at this
      exact this
    rcases h with ⟨hw, h⟩ | ⟨hw, h⟩
    · obtain ⟨x, hr, hk⟩ := q_all hT hqo h hS'
      refine ⟨_, .inl ⟨hw, ?_, hr⟩, go x hk⟩
      intro c hc
      rw [hc] at hqo
      cases hqo
    · exact ⟨_, .inr ⟨hw, rfl⟩, go (.v undef) h⟩

theorem takeWhile_get {α : Type} (p : α → Bool) : ∀ (l : List α) (j : Nat) (x : α), j < (l.takeWhile p).length → l[j]? = some x → p x = true
  | [], j, x, hj, _ => by simp at hj
  | a :: l, j, x, hj, hx => by
    rw [List.takeWhile_cons] at hj
    cases hp : p a with
    | false => rw [hp] at hj; simp at hj
    | true =>
      rw [hp] at hj
      cases j with
      | zero => simp at hx; rw [← hx]; exact hp
      | succ j => exact takeWhile_get p l j x (by simpa using hj) (by simpa using hx)

theorem quiet_head {ops : Array Oper} {j : Nat} {o : Oper} (hj : j < qLen ops) (ho : ops[j]? = some o) : quietOp o.op = true :=
  takeWhile_get (fun o : Oper => quietOp o.op) ops.toList j o hj (by simpa using ho)

/-- One operation at the head of a list, as 'vcD' has it. -/
theorem vcD_step {ops : Array Oper} {KK : Held → Fr → Hp → Al → Prop} {i : Nat} {held : Held} {fr : Fr} {H : Hp} {al : Al} {a : Act}
    (h : vcDS P T yl n ops i KK held fr H al) (hS : Sat y n fr a) :
    ∃ o, ops[i]? = some o ∧ ∃ fr', Sat y n fr' a ∧ Agr (opsMods ops.toList) fr fr' ∧
      ((Region.wanted o (yielded ops a.tmps) = true ∧ vcOp P T yl o fr' H al fun x H' al' =>
          bif quietOp o.op then setD n o.dst fr' x fun fr'' => KK (addH i (ldCells T fr' o x) held) fr'' H' al'
          else hhs H' (keepH ops i held) (setD n o.dst fr' x fun fr'' => KK (keepH ops i held) fr'' H' al')) ∨
       (Region.wanted o (yielded ops a.tmps) = false ∧ setD n o.dst fr' (.v undef) fun fr'' => KK held fr'' H al)) := by
  unfold vcDS at h
  split at h <;> try exact h.elim
  rename_i o ho
  refine ⟨o, ho, ?_⟩
  split at h
  · rename_i hg
    exact ⟨fr, hS, Agr.refl _ _, .inl ⟨by simp [Region.wanted, hg], h⟩⟩
  · rename_i j want hg
    split at h <;> try exact h.elim
    rename_i s hs
    split at h <;> try exact h.elim
    · rename_i b hb
      have hcell := hS.2 s _ hb
      simp only [avV] at hcell
      have hw := wanted_of hg hs hcell
      rcases bc_elim h with ⟨rfl, h⟩ | ⟨rfl, h⟩
      · cases want with
        | true => exact ⟨_, hS.lit hb, Agr.cons (dst_mods hs) _, .inl ⟨by rw [hw]; rfl, h⟩⟩
        | false => exact ⟨_, hS.lit hb, Agr.cons (dst_mods hs) _, .inr ⟨by rw [hw]; rfl, h⟩⟩
      · cases want with
        | true => exact ⟨_, hS.lit hb, Agr.cons (dst_mods hs) _, .inr ⟨by rw [hw]; rfl, h⟩⟩
        | false => exact ⟨_, hS.lit hb, Agr.cons (dst_mods hs) _, .inl ⟨by rw [hw]; rfl, h⟩⟩
    · rename_i vs hb
      have hcell := hS.2 s _ hb
      simp only [avV] at hcell
      exact ⟨fr, hS, Agr.refl _ _, .inr ⟨wanted_not hg hs hcell, h⟩⟩

theorem AN_add {ops : Array Oper} {Q : Exit → Act → World → Prop} {ro' : Option Nat} {f i : Nat} {listed : Array Bool} {R : List (Nat × Nat × Value)} {held : Held} {a : Act} {w : World}
    (h : AN P ops ro' nn Q f listed (addH i R held) a w) (hne : R ≠ []) : AN P ops ro' nn Q f listed ((i, R) :: held) a w := by
  cases R with
  | nil => exact absurd rfl hne
  | cons r R => exact h

/-- A held entry with no cells. -/
theorem AN_nil {ops : Array Oper} {Q : Exit → Act → World → Prop} {ro' : Option Nat} {i : Nat} : ∀ (f : Nat) {listed : Array Bool} {held held' : Held} {a : Act} {w : World}, (∀ e ∈ held', e ∈ held ∨ e = (i, [])) →
    AN P ops ro' nn Q f listed held a w → AN P ops ro' nn Q f listed held' a w
  | 0, _, _, _, _, _, _, h => h
  | f + 1, _, held, held', _, _, hs, h => by
    have hk : ∀ j, ∀ e ∈ keepH ops j held', e ∈ keepH ops j held ∨ e = (i, []) := fun j e he => by
      obtain ⟨h1, h2⟩ := List.mem_filter.1 he
      rcases hs e h1 with h3 | h3
      · exact .inl (List.mem_filter.2 ⟨h3, h2⟩)
      · exact .inr h3
    refine ⟨h.1, fun j hj => ?_⟩
    obtain ⟨o, ho, h2⟩ := h.2 j hj
    refine ⟨o, ho, ?_⟩
    rcases h2 with ⟨hq, v, R, h3, h4, h5⟩ | h2
    · exact .inl ⟨hq, v, R, h3, h4, AN_nil f hs h5⟩
    · refine .inr (wpOpIn_mono (fun a' w' h' => ⟨fun e he => ?_, AN_nil f (hk j) h'.2⟩) h2)
      rcases hk j e he with h6 | h6
      · exact h'.1 e h6
      · rw [h6]; intro r hr; cases hr

theorem vcD_an (S : Sys P B C Inv y yl) (hT : TOk P T) {ops : Array Oper} {KK : Fr → Hp → Al → Prop} {Q : Exit → Act → World → Prop} {fr0 : Fr} (hp' : ∀ c a w, ¬ Q (.panic c) a w)
    (hsel : Region.noSelect ops = true) (hdef : noDefB ops = true)
    (hQ : ∀ fr a al w, Sat y n fr a → KK fr (hp w) al → Ctx ro B C Inv al a.defers w → Agr (opsMods ops.toList) fr0 fr → Q .normal a w) :
    ∀ (f : Nat) (l : Ord) (listed : Array Bool) (held : Held) (fr : Fr) (al : Al) (a : Act) (w : World), ordB ops f listed = some l → ClosedL ops listed →
      (∀ e ∈ held, HoldsH (hp w) e.2) → vcD P T yl n ops KK l held fr (hp w) al → Sat y n fr a → Ctx ro B C Inv al a.defers w → Agr (opsMods ops.toList) fr0 fr →
      AN P ops (ro.map (·.1)) nn Q f listed held a w := by
  intro f
  induction f with
  | zero =>
    intro l listed held fr al a w hl hc hH h hS hC hA
    simp only [ordB] at hl
    split at hl
    · rename_i hr
      cases hl
      exact ⟨hr, hQ fr a al w hS h hC hA⟩
    · cases hl
  | succ f ih =>
    intro l listed held fr al a w hl hc hH h hS hC hA
    -- one that is ready, whatever it is
    have any1 : ∀ (j : Nat) (l' : Ord), j ∈ Region.ready .any ops listed → ordB ops f (listed.setIfInBounds j true) = some l' → vcDS P T yl n ops j (vcD P T yl n ops KK l') held fr (hp w) al →
        ∃ o, ops[j]? = some o ∧
        ((quietOp o.op = true ∧ ∃ v R, YA P ops R o v a ∧ HoldsH (hp w) R ∧ AN P ops (ro.map (·.1)) nn Q f (listed.setIfInBounds j true) held (a.put o.dst v) w) ∨
         (wpOpIn (Fn (ro.map (·.1))) nn P ops Q j (fun a' w' => (∀ e ∈ keepH ops j held, HoldsH (hp w') e.2) ∧ AN P ops (ro.map (·.1)) nn Q f (listed.setIfInBounds j true) (keepH ops j held) a' w') a w)) := by
      intro j l' hmem hl' h
      obtain ⟨o, ho, fr', hS', hA', h⟩ := vcD_step h hS
      refine ⟨o, ho, ?_⟩
      have hHk : ∀ e ∈ keepH ops j held, HoldsH (hp w) e.2 := fun e he => hH e (List.mem_filter.1 he).1
      rcases h with ⟨hw, h⟩ | ⟨hw, h⟩
      · cases hq : quietOp o.op with
        | true =>
          rw [hq] at h
          obtain ⟨x, h1, h2, h3⟩ := q_any hT hq h hS'
          simp only [cond_true] at h3
          obtain ⟨fr'', hS'', hA'', hk⟩ := setD_agr ho h3 hS'
          refine .inl ⟨rfl, _, _, fun W hW => .inl ⟨hw, fun c => noDef_spec hdef j o c ho, h2 W hW⟩, h1, ?_⟩
          have hH' : ∀ e ∈ addH j (ldCells T fr' o x) held, HoldsH (hp w) e.2 := fun e he => by
            unfold addH at he
            split at he
            · exact hH e he
            · rcases List.mem_cons.1 he with rfl | he
              · exact h1
              · exact hH e he
          refine AN_sub f (fun e he => ?_) (ih l' _ _ fr'' al _ w hl' (hc.set hmem) hH' hk hS'' (by rw [put_defers]; exact hC) ((hA.trans hA').trans hA''))
          unfold addH
          split
          · exact he
          · exact List.mem_cons_of_mem _ he
        | false =>
          rw [hq] at h
          simp only [cond_false] at h
          refine .inr ?_
          unfold wpOpIn
          simp only [ho]
          rw [if_pos hw]
          refine op_sound S hT h hS' hC fun x w' al' hk hC' => ?_
          obtain ⟨hk1, hk⟩ := hhs_elim hk
          obtain ⟨fr'', hS'', hA'', hk⟩ := setD_agr ho hk hS'
          exact ⟨hk1, ih l' _ _ fr'' al' _ w' hl' (hc.set hmem) hk1 hk hS'' (by rw [put_defers]; exact hC') ((hA.trans hA').trans hA'')⟩
      · obtain ⟨fr'', hS'', hA'', hk⟩ := setD_agr ho h hS'
        refine .inr ?_
        unfold wpOpIn
        simp only [ho]
        rw [if_neg (by rw [hw]; simp)]
        refine ⟨fun _ _ => trivial, hHk, ?_⟩
        exact AN_sub f (fun e he => (List.mem_filter.1 he).1) (ih l' _ held fr'' al _ w hl' (hc.set hmem) hH hk hS'' (by rw [put_defers]; exact hC) ((hA.trans hA').trans hA''))
    simp only [ordB] at hl
    split at hl
    · -- one that looks
      rename_i i hf
      split at hl
      · rename_i l' hl'
        cases hl
        have hmem := List.mem_of_find?_eq_some hf
        have hpr := List.find?_some hf
        simp only [Bool.and_eq_true] at hpr
        simp only [vcD] at h
        obtain ⟨o, ho, fr', hS', hA', h⟩ := vcD_step h hS
        have hq : quietOp o.op = true := by have := hpr.1; simpa [isQ, ho] using this
        have go : ∀ (v : AV) (R : List (Nat × Nat × Value)), YA P ops R o (avV y v) a → HoldsH (hp w) R →
            (setD n o.dst fr' v fun fr'' => vcD P T yl n ops KK l' (addH i R held) fr'' (hp w) al) → AN P ops (ro.map (·.1)) nn Q (f + 1) listed held a w := by
          intro v R hy hR hk
          obtain ⟨fr'', hS'', hA'', hk⟩ := setD_agr ho hk hS'
          have hH' : ∀ e ∈ addH i R held, HoldsH (hp w) e.2 := fun e he => by
            cases R with
            | nil => exact hH e he
            | cons r R =>
              rcases List.mem_cons.1 he with rfl | he
              · exact hR
              · exact hH e he
          have := ih l' (listed.setIfInBounds i true) _ fr'' al _ w hl' (hc.set hmem) hH' hk hS'' (by rw [put_defers]; exact hC) ((hA.trans hA').trans hA'')
          refine AN_first ho hq (fun j o cs b => Region.noSelect_spec hsel j o cs b) (fun j o c => noDef_spec hdef j o c) hp' f listed held a w hc (Region.free_spec ho hpr.2) hmem hy hR ?_
          cases R with
          | nil => exact AN_nil (i := i) f (fun e he => by rcases List.mem_cons.1 he with h1 | h1; exact .inr h1; exact .inl h1) this
          | cons r R => exact this
        rcases h with ⟨hw, h⟩ | ⟨hw, h⟩
        · obtain ⟨x, h1, h2, h3⟩ := q_any hT hq h hS'
          rw [hq] at h3
          exact go x _ (fun W hW => .inl ⟨hw, fun c => noDef_spec hdef i o c ho, h2 W hW⟩) h1 h3
        · exact go (.v undef) [] (fun W _ => .inr ⟨hw, rfl⟩) (fun r hr => by cases hr) h
      · cases hl
    · split at hl
      · rename_i hr
        cases hl
        exact ⟨fun _ => hQ fr a al w hS h hC hA, fun i hi => by rw [hr] at hi; cases hi⟩
      · -- the one that must be next
        rename_i i hr
        split at hl
        · rename_i l' hl'
          cases hl
          refine ⟨fun h0 => (by rw [h0] at hr; cases hr), fun j hj => ?_⟩
          have hj' := hj
          rw [hr] at hj'
          obtain rfl := List.mem_singleton.1 hj'
          exact any1 j l' hj hl' h
        · cases hl
      · -- each of those that may be next
        rename_i hne hr1
        refine ⟨fun h0 => absurd h0 hne, fun j hj => ?_⟩
        have walk : ∀ (rs : List Nat) (u : Ord), altsB (fun i => ordB ops f (listed.setIfInBounds i true)) rs = some u → vcD P T yl n ops KK u held fr (hp w) al →
            ∀ j ∈ rs, ∃ l', ordB ops f (listed.setIfInBounds j true) = some l' ∧ vcDS P T yl n ops j (vcD P T yl n ops KK l') held fr (hp w) al := by
          intro rs
          induction rs with
          | nil => intro u _ _ j hj; cases hj
          | cons i rs ihr =>
            intro u hu hv j hj
            simp only [altsB] at hu
            split at hu <;> try (cases hu; done)
            rename_i t v ht hv'
            cases hu
            have hh : vcDS P T yl n ops i (vcD P T yl n ops KK t) held fr (hp w) al ∧ vcD P T yl n ops KK v held fr (hp w) al := by
              cases v with
              | stop => exact ⟨hv, trivial⟩
              | _ => exact hv
            rcases List.mem_cons.1 hj with rfl | hj
            · exact ⟨t, ht, hh.1⟩
            · exact ihr v hv' hh.2 j hj
        obtain ⟨l', hl', hd⟩ := walk _ l hl h j hj
        exact any1 j l' hj hl' hd

theorem vcReg_sound (hmix : P.follows .mixedOrders = true) (S : Sys P B C Inv y yl) (hT : TOk P T) {ops : Array Oper} {draw : Bool} {id : Nat} {KK : Fr → Hp → Al → Prop} {Q : Exit → Act → World → Prop}
    {fr : Fr} (hpn : ∀ c a w, ¬ Q (.panic c) a w) (hQ : ∀ fr' a al w, Sat y n fr' a → KK fr' (hp w) al → Ctx ro B C Inv al a.defers w → Agr (opsMods ops.toList) fr fr' → Q .normal a w)
    {al : Al} {a : Act} {w : World} (h : vcReg P T yl n ops draw fr (hp w) al KK) (hS : Sat y n fr a) (hC : Ctx ro B C Inv al a.defers w) :
    (Code.region id ops draw).wpIn (Fn (ro.map (·.1))) nn P Q a w := by
  cases draw with
  | false =>
    simp only [vcReg] at h
    refine wpIn_region ?_
    rw [List.range_eq_range']
    exact vcOps_sound S hT hQ _ fr al a w h hS hC (Agr.refl _ _)
  | true =>
    simp only [vcReg] at h
    cases hd : drawB ops with
    | false =>
      rw [hd] at h
      simp only [cond_false] at h
      split at h <;> try exact h.elim
      rename_i l hl
      unfold drawOrd at hl
      cases hb : Region.noSelect ops && noDefB ops with
      | false => rw [hb] at hl; cases hl
      | true =>
        rw [hb] at hl
        simp only [Bool.and_eq_true] at hb
        refine wpIn_region_any hmix (wpAnyIn_of_AN ops.size _ [] a w.drew ?_)
        exact vcD_an S hT hpn hb.1 hb.2 hQ ops.size l _ [] fr al a w.drew hl (fun j oj hj hl => by rw [getD_replicate_false] at hl; cases hl) (fun e he => by cases he) h hS (hC.ge0 S (Ge.drew w)) (Agr.refl _ _)
    | true =>
      rw [hd] at h
      simp only [cond_true] at h
      have hm : qLen ops ≤ ops.size := by
        have := (List.takeWhile_prefix (fun o : Oper => quietOp o.op) (l := ops.toList)).length_le
        simpa [qLen] using this
      have hN : ops.size = qLen ops + (ops.size - qLen ops) := by omega
      rw [hN] at h
      have hC' : Ctx ro B C Inv al a.defers w.drew := hC.ge0 S (Ge.drew w)
      rw [← hp_drew (w := w)] at h
      have hl := vcOps_lexW (w := w.drew) (fr0 := fr) hT (qLen ops) 0 fr al a (Agr.refl _ _) (fun j o _ h2 ho => quiet_head (by omega) ho) h hS
      refine wp_draw hmix hd hl ?_
      rintro a' ⟨he, fr', hS', hA', h'⟩
      rw [Nat.zero_add] at h'
      exact vcOps_sound S hT hQ _ fr' al a' w.drew h' hS' (by rw [he]; exact hC') hA'

end
end Go.V
namespace Go.V
set_option linter.unusedSectionVars false
variable [Sp]

/-- What a piece of code leaves, and which slots it leaves alone. -/
def QA (y : Value) (n : Nat) (ro : Option (Nat × Loop)) (B C : Nat) (Inv : Al → World → Prop) (ms : List Nat) (fr : Fr) (K : KT) : Exit → Act → World → Prop :=
  fun e a w => ∃ fr' al, Sat y n fr' a ∧ K e fr' (hp w) al ∧ Ctx ro B C Inv al a.defers w ∧ Agr ms fr fr'

theorem stepR_scope {P : Program} {b : Frame} {a : Act} {k : List Item} {cs : List Frame} {w : World} {c : Code} :
    step P (lone (b.atR a (.code (.scope c) :: k)) cs w) = .next (lone (b.atR a (.code c :: .inScope c :: k)) cs w) :=
  step_lone_go (by simp [stepG, stepG.exec, Frame.atR])

theorem stepR_inScope {P : Program} {b : Frame} {a : Act} {k : List Item} {cs : List Frame} {w : World} {c : Code} :
    step P (lone (b.atR a (.inScope c :: k)) cs w) = .next (lone (b.atR a k) cs w) :=
  step_lone_go (by simp [stepG, stepG.exec, Frame.atR])

theorem wpIn_scope {F : Fence} {n : Nat} {P : Program} {c : Code} {Q : Exit → Act → World → Prop} {a : Act} {w : World}
    (h : c.wpIn F n P (fun e a w => (∀ l, e ≠ .goto l) ∧ Q e a w) a w) : (Code.scope c).wpIn F n P Q a w := by
  intro b k cs hro hb hr
  have h0 : (lone (b.atR a (.code (.scope c) :: k)) cs w).fenced P F := fenced_calm hb hr rfl
  obtain ⟨e, a₁, w₁, ⟨hng, hq⟩, harr⟩ := h b (.inScope c :: k) cs hro hb hr
  cases e with
  | normal => exact ⟨.normal, a₁, w₁, hq, .head h0 stepR_scope (StepsIn.trans harr (.one (fenced_calm hb hr rfl) stepR_inScope))⟩
  | exit id =>
    have hx : exitTo id (.inScope c :: k) = exitTo id k := by simp [exitTo]
    exact ⟨.exit id, a₁, w₁, hq, fun k' hk => .head h0 stepR_scope (harr.1 k' (by rw [hx]; exact hk)),
      fun hr' hk => let ⟨k₁, h1, h2⟩ := harr.2 hr' (by rw [hx]; exact hk); ⟨k₁, h1, .head h0 stepR_scope h2⟩⟩
  | goto l => exact absurd rfl (hng l)
  | ret => exact ⟨_, a₁, w₁, hq, .of_steps (.one h0 stepR_scope) harr⟩
  | panic ch => exact ⟨_, a₁, w₁, hq, .of_steps (.one h0 stepR_scope) harr⟩
  | outgrown => exact ⟨_, a₁, w₁, hq, .of_steps (b := b) (k := k) (cs := cs) (e := .outgrown) (.one h0 stepR_scope) harr⟩

section
variable {P : Program} {T : Tab} {A : Ann} {yl : Option YG} {y : Value} {n : Nat} {B C : Nat} {Inv : Al → World → Prop} {ro : Option (Nat × Loop)}

/-! ### Frames at a loop's head -/
theorem get_drop {ms : List Nat} : ∀ (fr : Fr) (i : Nat) (x : AV), (fr.drop ms).get i = some x → i ∉ ms ∧ fr.get i = some x
  | [], i, x, h => by simp [Fr.drop, Fr.get] at h
  | (j, z) :: r, i, x, h => by
    unfold Fr.drop at h
    rw [List.filter_cons] at h
    cases hm : ms.any (Nat.beq j) with
    | true =>
      simp only [hm, Bool.not_true, Bool.false_eq_true, if_false] at h
      obtain ⟨h1, h2⟩ := get_drop r i x h
      refine ⟨h1, ?_⟩
      have hne : Nat.beq j i = false := by
        cases hb : Nat.beq j i with
        | false => rfl
        | true =>
          have := Nat.eq_of_beq_eq_true hb
          subst this
          obtain ⟨m, hm1, hm2⟩ := List.any_eq_true.1 hm
          have := Nat.eq_of_beq_eq_true hm2
          subst this
          exact absurd hm1 h1
      simp [Fr.get, hne, h2]
    | false =>
      simp only [hm, Bool.not_false, if_true] at h
      simp only [Fr.get] at h ⊢
      cases hb : Nat.beq j i with
      | true =>
        rw [hb] at h
        simp only [cond_true] at h ⊢
        refine ⟨fun hi => ?_, h⟩
        have := Nat.eq_of_beq_eq_true hb
        subst this
        have := List.any_eq_false.1 hm j hi
        simp at this
      | false =>
        rw [hb] at h
        simp only [cond_false] at h ⊢
        exact get_drop r i x h

theorem get_setAll : ∀ (is : List Nat) (vs : List Value) (fr : Fr) (i : Nat) (x : AV), (Fr.setAll fr is vs).get i = some x → (∃ (k : Nat) (v : Value), is[k]? = some i ∧ vs[k]? = some v ∧ x = .v v) ∨ fr.get i = some x
  | [], vs, fr, i, x, h => by cases vs <;> exact .inr h
  | j :: is, [], fr, i, x, h => .inr h
  | j :: is, v :: vs, fr, i, x, h => by
    simp only [Fr.setAll] at h
    rcases get_setAll is vs _ i x h with ⟨k, u, h1, h2, h3⟩ | h
    · exact .inl ⟨k + 1, u, by simpa using h1, by simpa using h2, h3⟩
    · simp only [Fr.get] at h
      cases hb : Nat.beq j i with
      | true =>
        rw [hb] at h
        simp only [cond_true, Option.some.injEq] at h
        exact .inl ⟨0, v, by simp [Nat.eq_of_beq_eq_true hb], by simp, h.symm⟩
      | false => rw [hb] at h; exact .inr h

theorem getVals_spec {a : Act} {fr : Fr} (hS : Sat y n fr a) : ∀ {is : List Nat} {vs : List Value}, getVals fr is = some vs → vs = is.map (fun i => a.tmps.getD i undef) ∧ ∀ (k i : Nat) (v : Value), is[k]? = some i → vs[k]? = some v → a.tmps[i]? = some v
  | [], vs, h => by simp only [getVals, Option.some.injEq] at h; subst h; simp
  | i :: is, vs, h => by
    simp only [getVals] at h
    split at h <;> try (cases h; done)
    rename_i v us hv hus
    simp only [Option.some.injEq] at h
    subst h
    obtain ⟨h1, h2⟩ := getVals_spec hS hus
    have h3 := hS.2 i _ hv
    simp only [avV] at h3
    refine ⟨by rw [List.map_cons, ← h1]; simp [h3], fun k j x hk hx => ?_⟩
    cases k with
    | zero => simp at hk hx; subst hk; subst hx; exact h3
    | succ k => exact h2 k j x (by simpa using hk) (by simpa using hx)

theorem sat_head {a : Act} {fr : Fr} {is : List Nat} {vs : List Value} {ms : List Nat} (hn : a.tmps.size = n)
    (h1 : ∀ i x, i ∉ ms → fr.get i = some x → (∀ k : Nat, is[k]? ≠ some i) → a.tmps[i]? = some (avV y x))
    (h2 : ∀ (k i : Nat) (v : Value), is[k]? = some i → vs[k]? = some v → a.tmps[i]? = some v) (hl : is.length = vs.length) : Sat y n (Fr.setAll (fr.drop ms) is vs) a := by
  refine ⟨hn, fun i x hx => ?_⟩
  by_cases hi : ∃ k : Nat, is[k]? = some i
  · have : ∀ (is : List Nat) (vs : List Value) (fr : Fr), (∃ k : Nat, is[k]? = some i) → is.length = vs.length → (Fr.setAll fr is vs).get i = some x → ∃ (k : Nat) (v : Value), is[k]? = some i ∧ vs[k]? = some v ∧ x = .v v := by
      intro is
      induction is with
      | nil => intro vs fr ⟨k, hk⟩; simp at hk
      | cons j is ih =>
        intro vs fr ⟨k, hk⟩ hl hx
        cases vs with
        | nil => simp at hl
        | cons v vs =>
          simp only [Fr.setAll] at hx
          by_cases hex : ∃ k : Nat, is[k]? = some i
          · obtain ⟨k, u, g1, g2, g3⟩ := ih vs _ hex (by simpa using hl) hx
            exact ⟨k + 1, u, by simpa using g1, by simpa using g2, g3⟩
          · rcases get_setAll is vs _ i x hx with ⟨k, u, g1, _, _⟩ | hx
            · exact absurd ⟨k, g1⟩ hex
            · have hji : j = i := by
                cases k with
                | zero => simpa using hk
                | succ k => exact absurd ⟨k, by simpa using hk⟩ hex
              subst hji
              have hb : Nat.beq j j = true := Nat.beq_refl j
              simp only [Fr.get, hb, cond_true, Option.some.injEq] at hx
              exact ⟨0, v, by simp, by simp, hx.symm⟩
    obtain ⟨k, v, g1, g2, rfl⟩ := this is vs _ hi hl hx
    exact h2 k i v g1 g2
  · rcases get_setAll is vs _ i x hx with ⟨k, u, g1, _, _⟩ | hx
    · exact absurd ⟨k, g1⟩ hi
    · obtain ⟨g1, g2⟩ := get_drop fr i x hx
      exact h1 i x g1 g2 (fun k hk => hi ⟨k, hk⟩)

theorem all_app {β : Type} : ∀ {l : List Sh} {F : List Value → Prop} {f : FT l β} {vs : List Value} {r : β}, FT.all l F → FT.app l f vs = some r → F vs
  | [], F, f, vs, r, h, ha => by
    cases vs with
    | nil => exact h
    | cons v vs => simp [FT.app] at ha
  | s :: l, F, f, vs, r, h, ha => by
    cases vs with
    | nil => cases s <;> simp [FT.app] at ha
    | cons v vs =>
      cases s <;> simp only [FT.all] at h
      case any => exact all_app (F := fun vs => F (v :: vs)) (h v) (by simpa only [FT.app] using ha)
      case int k =>
        cases v <;> simp only [FT.app, reduceCtorEq] at ha
        rename_i k' m
        split at ha <;> try (cases ha; done)
        rename_i hk _
        subst hk
        exact all_app (F := fun vs => F (.int _ m :: vs)) (h m) ha
      case bool => cases v <;> simp only [FT.app, reduceCtorEq] at ha; exact all_app (F := fun vs => F (.bool _ :: vs)) (h _) ha
      case str => cases v <;> simp only [FT.app, reduceCtorEq] at ha; exact all_app (F := fun vs => F (.string _ :: vs)) (h _) ha
      case ptr => cases v <;> simp only [FT.app, reduceCtorEq] at ha; exact all_app (F := fun vs => F (.pointer _ :: vs)) (h _) ha
      case slice => cases v <;> simp only [FT.app, reduceCtorEq] at ha; exact all_app (F := fun vs => F (.slice _ _ _ :: vs)) (h _ _ _) ha
      case map => cases v <;> simp only [FT.app, reduceCtorEq] at ha; exact all_app (F := fun vs => F (.map _ :: vs)) (h _) ha

end
end Go.V
namespace Go.V
set_option linter.unusedSectionVars false
variable [Sp]
section
variable {P : Program} {T : Tab} {A : Ann} {yl : Option YG} {y : Value} {n : Nat} {B : Nat}

/-- A change of one thing that is no row of cells. -/
theorem hp_setObj {w : World} {L : Nat} {o o' : Obj} (h : w.heap[L]? = some o) (ho : objB o = none) (ho' : objB o' = none) : hp { w with heap := w.heap.setIfInBounds L o' } = hp w := by
  funext b
  simp only [hp]
  by_cases e : L = b
  · subst e
    have hl := lt_of_heap h
    have h2 : w.heap[L] = o := by have := (Array.getElem?_eq_some_iff.1 h).2; exact this
    simp [hl, h2, ho, ho']
  · rw [Array.getElem?_setIfInBounds_ne e]

theorem Lt.setObj {w : World} {L C : Nat} (o' : Obj) (hC : C ≤ L) : Lt C w { w with heap := w.heap.setIfInBounds L o' } :=
  ⟨by simp, fun b h1 _ _ => by
    show (w.heap.setIfInBounds L o')[b]? = w.heap[b]?
    rw [Array.getElem?_setIfInBounds_ne (by omega)], rfl, rfl, rfl, fun b h1 _ => .of <| tag_of_same (by
    show (w.heap.setIfInBounds L o')[b]? = w.heap[b]?
    rw [Array.getElem?_setIfInBounds_ne (by omega)])⟩

theorem Ge.setObj {w : World} {L B : Nat} (o' : Obj) (hB : L < B) : Ge B w { w with heap := w.heap.setIfInBounds L o' } :=
  ⟨by simp, fun b h1 _ _ => by
    show (w.heap.setIfInBounds L o')[b]? = w.heap[b]?
    rw [Array.getElem?_setIfInBounds_ne (by omega)], rfl, rfl, rfl, fun b h1 _ => .of <| tag_of_same (by
    show (w.heap.setIfInBounds L o')[b]? = w.heap[b]?
    rw [Array.getElem?_setIfInBounds_ne (by omega)])⟩

theorem setObj_get {w : World} {L : Nat} {o o' : Obj} (h : w.heap[L]? = some o) : ({ w with heap := w.heap.setIfInBounds L o' } : World).heap[L]? = some o' := by
  have hl := lt_of_heap h
  simp [hl]

theorem setObj_ne {w : World} {L b : Nat} {o' : Obj} (h : b ≠ L) : ({ w with heap := w.heap.setIfInBounds L o' } : World).heap[b]? = w.heap[b]? := by
  show (w.heap.setIfInBounds L o')[b]? = w.heap[b]?
  rw [Array.getElem?_setIfInBounds_ne (Ne.symm h)]

theorem run_getLoop {w : World} {L : Nat} {r : Loop} (h : w.heap[L]? = some (.loop r)) : (Instr.getLoop L).run P w = .ok r w := by
  simp [Instr.getLoop, getObj, Sem.run, h]

theorem run_setObj' {w : World} {L : Nat} {o o' : Obj} (h : w.heap[L]? = some o) (hc : ∀ c t f, o ≠ .cells c t f) : (setObj L o').run P w = .ok () { w with heap := w.heap.setIfInBounds L o' } := by
  cases o <;> first | exact absurd rfl (hc _ _ _) | simp [setObj, Sem.run, h]

theorem run_beginRound {w : World} {L : Nat} {r : Loop} (h : w.heap[L]? = some (.loop r)) (hr : r.state = .ready) :
    (Instr.beginRound L).run P w = .ok () { w with heap := w.heap.setIfInBounds L (.loop { r with state := .busy }) } := by
  simp [Instr.beginRound, run_getLoop h, run_setObj' h, hr]

theorem run_endRound {w : World} {L : Nat} {r : Loop} (h : w.heap[L]? = some (.loop r)) (j : Option Code) :
    (Instr.endRound L j).run P w = .ok (.bool j.isNone) { w with heap := w.heap.setIfInBounds L (.loop { r with state := if j.isNone then .ready else .done, pending := j }) } := by
  simp [Instr.endRound, run_getLoop h, run_setObj' h]

theorem run_endLoop {w : World} {L : Nat} {r : Loop} (h : w.heap[L]? = some (.loop r)) (hr : ¬ r.state = .busy) :
    (Instr.endLoop L).run P w = .ok r.pending { w with heap := w.heap.setIfInBounds L (.loop { r with state := .exhausted }) } := by
  simp [Instr.endLoop, run_getLoop h, run_setObj' h, hr]

theorem YOk.and {L : Nat} {G : GT} {X : Al → World → Prop} {w0 : World} (h : YOk P L G B X) : YOk P L G B fun al w => X al w ∧ Ge B w0 w := by
  intro vals Kb w hX hG
  obtain ⟨fn, tmps, as, body, h1, h2⟩ := h vals Kb w hX.1 hG
  refine ⟨fn, tmps, as, body, h1, h2.mono ?_⟩
  rintro e w' ⟨al, rfl, hk, hx, hg⟩
  exact ⟨al, rfl, hk, ⟨hx, hX.2.trans hg⟩, hg⟩

/-- The same system, with what has been kept since w0. -/
theorem Sys.and {C : Nat} {Inv : Al → World → Prop} (S : Sys P B C Inv y yl) (w0 : World) (hC : C ≤ w0.heap.size) : Sys P B w0.heap.size (fun al w => Inv al w ∧ Ge B w0 w) y yl :=
  ⟨Nat.le_trans S.le hC, fun al w w' h hl => ⟨S.st _ _ _ h.1 (hl.mono hC), ⟨Nat.le_trans h.2.size hl.size, fun b h1 h2 h3 => by
      have h4 := h.2.keep b h1 h2 h3
      rw [hl.keep b h2 (Nat.lt_of_lt_of_le h2 h.2.size) (by rw [hp_of_same h4]; exact h3), h4], hl.tape.trans h.2.tape, hl.os.trans h.2.os, hl.output.trans h.2.output, fun b h1 h2 => (h.2.tags b h1 h2).trans (hl.tags b h2 (Nat.lt_of_lt_of_le h2 h.2.size))⟩⟩,
   fun G hG => by
    obtain ⟨h1, h2⟩ := S.yv G hG
    exact ⟨h1, h2.and⟩⟩

/-- The state of the machine while the function that is ranged over runs: the record of the loop, and what the activation has. -/
def RX (ro : Option (Nat × Loop)) (B C : Nat) (Inv : Al → World → Prop) (ds : List Deferred) (r0 : Loop) (L : Nat) (js : List Exit) (al : Al) (w : World) : Prop :=
  stOk r0 L js al w ∧
  match al with
  | .on => Ctx ro B C Inv .on ds w
  | .off _ up => Ctx ro B C Inv up ds w

theorem Ctx.lt {ro : Option (Nat × Loop)} {C : Nat} {Inv : Al → World → Prop} (S : Sys P B C Inv y yl) {N : Nat} {al : Al} {ds : List Deferred} {w w' : World} (h : Ctx ro B C Inv al ds w) (hl : Lt N w w') (hC : C ≤ N)
    (hd : ∀ rs : List Nat, ds = rs.map markOf → ∀ r ∈ rs, r < N) (hr : ∀ l r, ro = some (l, r) → l < N) : Ctx ro B C Inv al ds w' := by
  refine ⟨S.st _ _ _ h.inv (hl.mono hC), Nat.le_trans h.size hl.size, ?_, fun l r e => ?_, h.rod⟩
  · obtain ⟨rs, h1, h2, h3⟩ := h.dfs
    refine ⟨rs, h1, h2, fun r hr => ?_⟩
    obtain ⟨a, b⟩ := h3 r hr
    exact ⟨a, by rw [hl.keep r (hd rs h1 r hr) (lt_of_heap b) (hp_deferred b)]; exact b⟩
  · obtain ⟨a, b⟩ := h.rok l r e
    exact ⟨a, by rw [hl.keep l (hr l r e) (lt_of_heap b) (hp_loop b)]; exact b⟩

theorem zip_fold (y : Value) (n : Nat) : ∀ (ps : List Tmp) (vals : List Value) (fr : Fr) (tm : Array Value), ps.length = vals.length → (∀ p ∈ ps, p < n) → Sat y n fr { tmps := tm, defers := [] } →
    Sat y n (Fr.setAll fr ps vals) { tmps := (ps.zip vals).foldl (fun tmps (p : Tmp × Value) => tmps.setIfInBounds p.1 p.2) tm, defers := [] }
  | [], vals, fr, tm, hl, _, hS => by
    cases vals with
    | nil => exact hS
    | cons v vs => simp at hl
  | p :: ps, [], fr, tm, hl, _, hS => by simp at hl
  | p :: ps, v :: vs, fr, tm, hl, hp, hS => by
    simp only [Fr.setAll, List.zip_cons_cons, List.foldl_cons]
    exact zip_fold y n ps vs _ _ (by simpa using hl) (fun q hq => hp q (by simp [hq])) (hS.cons (hp p (by simp)) (.v v) _ rfl)


/-- What is proved of a piece of code. -/
def Snd (P : Program) (T : Tab) (A : Ann) (yl : Option YG) (y : Value) (n B : Nat) (c : Code) : Prop :=
  ∀ (C : Nat) (Inv : Al → World → Prop) (ro : Option (Nat × Loop)), Sys P B C Inv y yl → ∀ (bid : Nat) (fr : Fr) (al : Al) (a : Act) (w : World) (K : KT),
    vc P T A yl n c bid fr (hp w) al K → Sat y n fr a → Ctx ro B C Inv al a.defers w → c.wpIn (Fn (ro.map (·.1))) 0 P (QA y n ro B C Inv (mods c) fr K) a w

theorem Sat.act {fr : Fr} {a a' : Act} (h : Sat y n fr a) (ht : a'.tmps = a.tmps) : Sat y n fr a' := ⟨by rw [ht]; exact h.1, fun i x hx => by rw [ht]; exact h.2 i x hx⟩

/-- What lies at or above B, but for L, stays. -/
structure GeN (B L : Nat) (w w' : World) : Prop where
  size : w.heap.size ≤ w'.heap.size
  keep : ∀ b, B ≤ b → b < w.heap.size → hp w b = none → b ≠ L → w'.heap[b]? = w.heap[b]?
  tape : w'.tape = w.tape
  os : w'.os = w.os
  output : w'.output = w.output
  tags : ∀ b, B ≤ b → b < w.heap.size → b ≠ L → TagLe (tagAt w b) (tagAt w' b)

theorem GeN.of {L : Nat} {w w' : World} (h : Ge B w w') : GeN B L w w' := ⟨h.size, fun b h1 h2 h3 _ => h.keep b h1 h2 h3, h.tape, h.os, h.output, fun b h1 h2 _ => h.tags b h1 h2⟩
theorem GeN.trans {L : Nat} {w w1 w2 : World} (h : GeN B L w w1) (h' : GeN B L w1 w2) : GeN B L w w2 :=
  ⟨Nat.le_trans h.size h'.size, fun b hB hb hn hL => by
    have h1 := h.keep b hB hb hn hL
    rw [h'.keep b hB (Nat.lt_of_lt_of_le hb h.size) (by rw [hp_of_same h1]; exact hn) hL, h1],
    h'.tape.trans h.tape, h'.os.trans h.os, h'.output.trans h.output, fun b hB hb hL => (h.tags b hB hb hL).trans (h'.tags b hB (Nat.lt_of_lt_of_le hb h.size) hL)⟩
theorem GeN.setObj {L : Nat} {w : World} (o' : Obj) : GeN B L w { w with heap := w.heap.setIfInBounds L o' } :=
  ⟨by simp, fun b _ _ _ h => setObj_ne h, rfl, rfl, rfl, fun b _ _ h => .of <| tag_of_same (setObj_ne h)⟩
theorem GeN.ge {L : Nat} {w w' : World} (h : GeN B L w w') (hB : B ≤ L) : Ge (L + 1) w w' :=
  ⟨h.size, fun b h1 h2 h3 => h.keep b (by omega) h2 h3 (by omega), h.tape, h.os, h.output, fun b h1 h2 => h.tags b (by omega) h2 (by omega)⟩

theorem Ctx.geN {ro : Option (Nat × Loop)} {C L : Nat} {Inv : Al → World → Prop} (S : Sys P B C Inv y yl) {al al' : Al} {ds : List Deferred} {w w' : World} (h : Ctx ro B C Inv al ds w) (hi : Inv al' w') (hg : GeN B L w w')
    (hd : ∀ rs : List Nat, ds = rs.map markOf → ∀ r ∈ rs, r < L) (hr : ∀ l r, ro = some (l, r) → l < L) : Ctx ro B C Inv al' ds w' := by
  refine ⟨hi, Nat.le_trans h.size hg.size, ?_, fun l r e => ?_, h.rod⟩
  · obtain ⟨rs, h1, h2, h3⟩ := h.dfs
    refine ⟨rs, h1, h2, fun r hr => ?_⟩
    obtain ⟨a, b⟩ := h3 r hr
    exact ⟨a, by rw [hg.keep r (Nat.le_trans S.le a) (lt_of_heap b) (hp_deferred b) (Nat.ne_of_lt (hd rs h1 r hr))]; exact b⟩
  · obtain ⟨a, b⟩ := h.rok l r e
    exact ⟨a, by rw [hg.keep l a (lt_of_heap b) (hp_loop b) (Nat.ne_of_lt (hr l r e))]; exact b⟩

theorem parSh_len : ∀ {l : List Nat} {shs : List VS}, parSh A l = some shs → shs.length = l.length
  | [], shs, h => by simp only [parSh, Option.some.injEq] at h; subst h; rfl
  | i :: r, shs, h => by
    simp only [parSh] at h
    split at h
    · rename_i s l hs hl
      simp only [Option.some.injEq] at h
      subst h
      simp [parSh_len hl]
    · cases h

/-- The transformer of a round. -/
def RG (P : Program) (T : Tab) (A : Ann) (yl : Option YG) (n : Nat) (shs : List VS) (ps : List Nat) (as body : Code) (bid : Nat) (fr : Fr) : GT := fun vals H1 Kb =>
  liftWs shs vals fun vals => vc P T A yl n as bid (Fr.setAll fr ps vals) H1 .on fun e fr1 H2 al2 => match e, al2 with
    | .normal, .on => vc P T A yl n body bid fr1 H2 .on fun e _ H3 al3 => exK (jmps body) Kb e H3 al3
    | _, _ => False

theorem round_ok {C : Nat} {Inv : Al → World → Prop} {ro : Option (Nat × Loop)} {as body : Code} (ihA : Snd P T A yl y n B as) (ihB : Snd P T A yl y n B body) (S : Sys P B C Inv y yl)
    {shs : List VS} {ps : Array Tmp} {bid : Nat} {fr : Fr} {a : Act} {ds : List Deferred} {L : Nat} {r0 : Loop} {fn : FuncId} (hsh : parSh A ps.toList = some shs) (hps : ps.toList.all (fun p => Nat.blt p n) = true) (hS : Sat y n fr a)
    (hr0 : r0 = { state := .ready, pending := none, fn := fn, tmps := a.tmps, params := ps, assign := as, body := body, defers := r0.defers }) (hCL : C ≤ L)
    (hmk : ∀ rs : List Nat, ds = rs.map markOf → ∀ r ∈ rs, r < L) (hrl : ∀ l r, ro = some (l, r) → l < L) :
    YOk P L (RG P T A yl n shs ps.toList as body bid fr) (L + 1) (RX ro B C Inv ds r0 L (jmps body)) := by
  have hBL : B ≤ L := Nat.le_trans S.le hCL
  intro vals Kb w hX hG
  obtain ⟨hst, hC⟩ := hX
  simp only [stOk] at hst
  simp only at hC
  obtain ⟨hG, hlen⟩ := liftWs_elim hG
  have hpl := parSh_len hsh
  have hsz : vals.length = ps.size := by rw [hlen, hpl]; simp
  refine ⟨r0.fn, (r0.params.zip ⟨vals⟩).foldl (fun tmps (t, a) => tmps.setIfInBounds t a) r0.tmps, r0.assign, r0.body, ?_, ?_⟩
  · have : ¬ ((⟨vals⟩ : Array Value).size ≠ r0.params.size) := by
      rw [hr0]
      show ¬ (vals.length ≠ ps.size)
      omega
    simp only [Instr.yield, Sem.run_bind, run_getLoop hst, Result.andThen_ok, if_neg this]
    rfl
  have ea : r0.assign = as := by rw [hr0]
  have eb : r0.body = body := by rw [hr0]
  rw [ea, eb]
  refine roundIn_of_wpIn (F := Fence.wide) (n := 0) trivial ?_
  have hS0 : Sat y n (Fr.setAll fr ps.toList vals) { tmps := (r0.params.zip ⟨vals⟩).foldl (fun tmps (t, a) => tmps.setIfInBounds t a) r0.tmps, defers := [] } := by
    have := zip_fold y n ps.toList vals fr a.tmps (by simp [hsz]) (fun p hp => by have := List.all_eq_true.1 hps p hp; simpa [Nat.blt_eq] using this) (hS.act rfl)
    have e1 : r0.params = ps := by rw [hr0]
    have e2 : r0.tmps = a.tmps := by rw [hr0]
    rw [e1, e2, ← Array.foldl_toList]
    simpa using this
  have S1 := S.and w hC.size
  have C1 : Ctx (some (L, r0)) B w.heap.size (fun al W => Inv al W ∧ Ge B w W) .on [] w :=
    ⟨⟨hC.inv, Ge.refl _ _⟩, Nat.le_refl _, ⟨[], rfl, List.nodup_nil, fun r hr => by cases hr⟩, fun l r e => by cases e; exact ⟨hBL, hst⟩, fun _ _ => rfl⟩
  have hA := ihA _ _ (some (L, r0)) S1 bid _ .on _ w _ hG hS0 C1
  refine wpIn_mono hA ?_
  rintro e a1 w1 ⟨fr1, al1, hS1, hk, hC1, _⟩
  cases e with
  | normal =>
    cases al1 with
    | off e up => exact hk.elim
    | on =>
      simp only at hk
      have hl1 := (hC1.rok L r0 rfl).2
      have hbr := run_beginRound (P := P) hl1 (by rw [hr0])
      refine ⟨_, hbr, ?_⟩
      generalize hw2 : ({ w1 with heap := w1.heap.setIfInBounds L (.loop { r0 with state := .busy }) } : World) = w2
      have hp2 : hp w2 = hp w1 := by rw [← hw2]; exact hp_setObj hl1 rfl rfl
      have hl2 : w2.heap[L]? = some (.loop { r0 with state := .busy }) := by rw [← hw2]; exact setObj_get hl1
      have hlt2 : Lt C w1 w2 := by rw [← hw2]; exact Lt.setObj _ hCL
      have hg2 : GeN B L w1 w2 := by rw [← hw2]; exact GeN.setObj _
      have hi2 : Inv .on w2 := S.st _ _ _ hC1.inv.1 hlt2
      have hs2 : C ≤ w2.heap.size := Nat.le_trans hC.size (Nat.le_trans hC1.size hg2.size)
      have S2 := S.and w2 hs2
      have C2 : Ctx (some (L, { r0 with state := .busy })) B w2.heap.size (fun al W => Inv al W ∧ Ge B w2 W) .on a1.defers w2 := by
        have hd1 := hC1.rod _ rfl
        rw [hd1]
        exact ⟨⟨hi2, Ge.refl _ _⟩, Nat.le_refl _, ⟨[], rfl, List.nodup_nil, fun r hr => by cases hr⟩, fun l r e => by cases e; exact ⟨hBL, hl2⟩, fun _ _ => rfl⟩
      rw [← hp2] at hk
      have hB' := ihB _ _ (some (L, { r0 with state := .busy })) S2 bid _ .on a1 w2 _ hk hS1 C2
      refine wpIn_mono hB' ?_
      rintro e a3 w3 ⟨fr3, al3, _, hk3, hC3, _⟩
      have hl3 := (hC3.rok L _ rfl).2
      have hg13 : GeN B L w w3 := ((GeN.of hC1.inv.2).trans hg2).trans (GeN.of hC3.inv.2)
      have fin : ∀ (r' : Loop), hp ({ w3 with heap := w3.heap.setIfInBounds L (.loop r') } : World) = hp w3 ∧ GeN B L w ({ w3 with heap := w3.heap.setIfInBounds L (.loop r') } : World) ∧
          Inv al3 ({ w3 with heap := w3.heap.setIfInBounds L (.loop r') } : World) := fun r' =>
        ⟨hp_setObj hl3 rfl rfl, hg13.trans (GeN.setObj _), S.st _ _ _ hC3.inv.1 (Lt.setObj _ hCL)⟩
      have jump : ∀ (e : Exit) (c : Code), jcode e = c → (match idxE (jmps body) e with
          | some j => Kb (.off j al3) (hp w3)
          | none => False) → ∃ v w', (Instr.endRound L (some c)).run P w3 = .ok v w' ∧
          ∃ al, Ending.returned v = .returned (.bool al.isOn) ∧ Kb al (hp w') ∧ RX ro B C Inv ds r0 L (jmps body) al w' ∧ Ge (L + 1) w w' := by
        intro e c hc hk
        subst hc
        split at hk <;> try exact hk.elim
        rename_i j hj
        obtain ⟨hj1, hj2⟩ := idxE_spec hj
        obtain ⟨f1, f2, f3⟩ := fin { r0 with state := .done, pending := some (jcode e) }
        refine ⟨_, _, run_endRound (P := P) hl3 (some (jcode e)), .off j al3, rfl, ?_, ⟨⟨e, hj1, hj2, ?_⟩, ?_⟩, ?_⟩
        · simp only [Option.isNone_some, Bool.false_eq_true, if_false]; rw [f1]; exact hk
        · exact setObj_get hl3
        · exact hC.geN S f3 f2 hmk hrl
        · exact f2.ge hBL
      cases e with
      | normal =>
        cases al3 with
        | off e up => exact hk3.elim
        | on =>
          simp only [exK] at hk3
          obtain ⟨f1, f2, f3⟩ := fin { r0 with state := .ready, pending := none }
          have er : ({ r0 with state := .ready, pending := none } : Loop) = r0 := by rw [hr0]
          refine ⟨_, _, run_endRound (P := P) hl3 none, .on, rfl, ?_, ⟨?_, ?_⟩, ?_⟩
          · simp only [Option.isNone_none, if_true]; rw [f1]; exact hk3
          · simp only [stOk, Option.isNone_none, if_true]
            rw [← er]
            exact setObj_get hl3
          · exact hC.geN S f3 f2 hmk hrl
          · exact f2.ge hBL
      | exit id => exact jump (.exit id) _ rfl hk3
      | ret => exact jump .ret _ rfl hk3
      | goto l => exact jump (.goto l) _ rfl hk3
      | panic c =>
        simp only [exK] at hk3
        split at hk3 <;> try exact hk3.elim
        rename_i j hj
        have := (idxE_spec hj).2
        cases this
      | outgrown =>
        simp only [exK] at hk3
        split at hk3 <;> try exact hk3.elim
        rename_i j hj
        have := (idxE_spec hj).2
        cases this
  | exit id => exact hk.elim
  | ret => exact hk.elim
  | goto l => exact hk.elim
  | panic c => exact hk.elim
  | outgrown => exact hk.elim

theorem hp_alloc_obj {w : World} {o : Obj} (h : objB o = none) : hp (w.alloc o) = hp w := by
  funext b
  simp only [hp, World.alloc]
  rw [Array.getElem?_push]
  by_cases e : b = w.heap.size
  · subst e; simp [h]
  · simp [e]

theorem alloc_get (w : World) (o : Obj) : (w.alloc o).heap[w.heap.size]? = some o := by
  show (w.heap.push o)[w.heap.size]? = some o
  simp
theorem alloc_old {w : World} {o : Obj} {b : Nat} (h : b < w.heap.size) : (w.alloc o).heap[b]? = w.heap[b]? := by
  simp only [World.alloc]
  rw [Array.getElem?_push]
  simp [Nat.ne_of_lt h]

theorem enter_ok {C : Nat} {Inv : Al → World → Prop} {ro : Option (Nat × Loop)} (S : Sys P B C Inv y yl) {as body : Code} {ps : Array Tmp} {a : Act} {w : World} (hC : Ctx ro B C Inv .on a.defers w) (fn : FuncId) :
    ∃ (L : Nat) (mark : List Deferred) (w1 : World) (r0 : Loop), (Instr.enterLoop fn a.tmps ps as body (ro.map (·.1))).run P w = .ok (L, mark) w1 ∧ hp w1 = hp w ∧ w.heap.size ≤ L ∧ L < w1.heap.size ∧
        w1.heap[L]? = some (.loop r0) ∧ r0 = { state := .ready, pending := none, fn := fn, tmps := a.tmps, params := ps, assign := as, body := body, defers := r0.defers } ∧
        Ctx ro B C Inv .on (mark ++ a.defers) w1 ∧ (∀ rs : List Nat, mark ++ a.defers = rs.map markOf → ∀ r ∈ rs, r < L) ∧ (∀ l r, ro = some (l, r) → l < L) := by
  have hold : ∀ rs : List Nat, a.defers = rs.map markOf → ∀ r ∈ rs, r < w.heap.size := by
    intro rs h r hr
    obtain ⟨rs', h1, hnd, h3⟩ := hC.dfs
    clear hnd
    have hinj : rs = rs' := by
      have : rs.map markOf = rs'.map markOf := by rw [← h, ← h1]
      have inj : ∀ (x z : Nat), markOf x = markOf z → x = z := fun x z e => by
        have := congrArg Deferred.target e
        simpa [markOf] using this
      clear h h1 h3 hr
      induction rs generalizing rs' with
      | nil => cases rs' with
        | nil => rfl
        | cons x xs => simp at this
      | cons x xs ih => cases rs' with
        | nil => simp at this
        | cons z zs =>
          simp only [List.map_cons, List.cons.injEq] at this
          rw [inj x z this.1, ih zs this.2]
    subst hinj
    exact lt_of_heap (h3 r hr).2
  cases ro with
  | none =>
    let r0 : Loop := { state := .ready, pending := none, fn := fn, tmps := a.tmps, params := ps, assign := as, body := body, defers := w.heap.size }
    refine ⟨w.heap.size + 1, [markOf w.heap.size], (w.alloc (.deferred (some []))).alloc (.loop r0), r0, ?_, ?_, by omega, by simp, ?_, rfl, ?_, ?_, fun l r e => by cases e⟩
    · simp [Instr.enterLoop, markOf, r0]
    · rw [hp_alloc_obj rfl, hp_alloc_obj rfl]
    · have := alloc_get (w.alloc (.deferred (some []))) (.loop r0)
      simpa using this
    · have hg : Ge 0 w ((w.alloc (.deferred (some []))).alloc (.loop r0)) := (Ge.alloc _ _).trans (Ge.alloc _ _)
      have h1 := hC.ge0 S hg
      refine ⟨h1.inv, h1.size, ?_, h1.rok, fun x e => by cases e⟩
      obtain ⟨rs, g1, g2, g3⟩ := h1.dfs
      refine ⟨w.heap.size :: rs, by rw [g1]; rfl, ?_, ?_⟩
      · rw [List.nodup_cons]
        refine ⟨fun hm => ?_, g2⟩
        have := hold rs g1 _ hm
        omega
      · intro r hr
        rcases List.mem_cons.1 hr with rfl | hr
        · refine ⟨hC.size, ?_⟩
          rw [alloc_old (by simp)]
          exact alloc_get _ _
        · exact g3 r hr
    · intro rs h r hr
      cases rs with
      | nil => cases hr
      | cons x xs =>
        simp only [List.singleton_append, List.map_cons, List.cons.injEq] at h
        have hx : w.heap.size = x := by
          have := congrArg Deferred.target h.1
          simpa [markOf] using this
        rcases List.mem_cons.1 hr with rfl | hr
        · omega
        · have := hold xs h.2 r hr
          omega
  | some lr =>
    obtain ⟨l, lrec⟩ := lr
    obtain ⟨hBl, hl⟩ := hC.rok l lrec rfl
    let r0 : Loop := { state := .ready, pending := none, fn := fn, tmps := a.tmps, params := ps, assign := as, body := body, defers := lrec.defers }
    refine ⟨w.heap.size, [], w.alloc (.loop r0), r0, ?_, hp_alloc_obj rfl, Nat.le_refl _, by simp, alloc_get _ _, rfl, hC.ge0 S (Ge.alloc _ _), ?_, ?_⟩
    · simp [Instr.enterLoop, run_getLoop hl, r0]
    · simpa using hold
    · intro l' r' e
      cases e
      exact lt_of_heap hl

theorem snd_rangeFunc {f : Operand} {ps : Array Tmp} {as body : Code} (ihA : Snd P T A yl y n B as) (ihB : Snd P T A yl y n B body) : Snd P T A yl y n B (.rangeFunc f ps as body) := by
  intro C Inv ro S bid fr al a w K h hS hC
  simp only [vc] at h
  split at h <;> try exact h.elim
  rename_i g shs hg hsh
  cases hps : ps.toList.all (fun p => Nat.blt p n) with
  | false => rw [hps] at h; exact h.elim
  | true =>
    rw [hps] at h
    simp only [cond_true] at h
    have hag := ev_eval hS hg
    obtain ⟨k, first, cap, rfl, hent, hiter⟩ := ITERV_elim h
    refine wpIn_rangeFunc fun fn _ => ?_
    obtain ⟨L, mark, w1, r0, he, hh1, hwL, hL1, hr0, hr0e, hC1, hmk, hrl⟩ := enter_ok (as := as) (body := body) (ps := ps) S hC fn
    have hCL : C ≤ L := Nat.le_trans hC.size hwL
    have hBL : B ≤ L := Nat.le_trans S.le hCL
    refine ⟨L, mark, w1, { target := .fn (.func k) cap, args := first ++ #[yv L] }, w1, k, ⟨first.toList ++ (yv L :: cap.toList)⟩, w1, he, ?_, fun _ _ => trivial, ?_, fun hd => (by cases hd), ?_⟩
    · have ha1 : (#[Operand.const (yv L)] : Array Operand).map a.eval = #[yv L] := by simp [Act.eval]
      simp only [resolve, hag, Deferred.ofValue]
      have e2 : (#[Operand.const (Value.func (Fn.yield L) #[] #[])] : Array Operand).map a.eval = #[yv L] := ha1
      rw [e2]
      rfl
    · simp only [invoke]
      rw [run_callFunc hent]
      congr 2
      apply Array.ext'
      simp
    · refine callsIn_wide.2 ?_
      refine (hiter w1 L (RX ro B C Inv (mark ++ a.defers) r0 L (jmps body)) hh1 hL1 ?_ ⟨hr0, hC1⟩ (round_ok ihA ihB S hsh hps hS hr0e hCL hmk hrl)).mono ?_
      · intro al w' w'' hX hl
        obtain ⟨hst, hX⟩ := hX
        refine ⟨?_, ?_⟩
        · cases al with
          | on => simp only [stOk] at hst ⊢; rw [hl.keep L (by omega) (lt_of_heap hst) (hp_loop hst)]; exact hst
          | off j up =>
            obtain ⟨e, q1, q2, q3⟩ := hst
            exact ⟨e, q1, q2, by rw [hl.keep L (by omega) (lt_of_heap q3) (hp_loop q3)]; exact q3⟩
        · cases al with
          | on => exact Ctx.lt S hX hl (by omega) (fun rs h r hr => by have := hmk rs h r hr; omega) (fun l r e => by have := hrl l r e; omega)
          | off e up => exact Ctx.lt S hX hl (by omega) (fun rs h r hr => by have := hmk rs h r hr; omega) (fun l r e => by have := hrl l r e; omega)
      · rintro e w3 ⟨v, al3, rfl, hk, ⟨hst, hX⟩, _⟩
        have done : ∀ (r' rr : Loop) (al' : Al), w3.heap[L]? = some (.loop rr) → Ctx ro B C Inv al' (mark ++ a.defers) w3 → hp ({ w3 with heap := w3.heap.setIfInBounds L (.loop r') } : World) = hp w3 ∧
            Ctx ro B C Inv al' (mark ++ a.defers) ({ w3 with heap := w3.heap.setIfInBounds L (.loop r') } : World) := fun r' rr al' hl hc =>
          ⟨hp_setObj hl rfl rfl, Ctx.lt S hc (Lt.setObj _ (Nat.le_refl L)) hCL hmk hrl⟩
        cases al3 with
        | on =>
          simp only [stOk] at hst
          simp only at hX hk
          obtain ⟨d1, d2⟩ := done { r0 with state := .exhausted } r0 .on hst hX
          have ep : r0.pending = none := by rw [hr0e]
          refine ⟨none, _, (run_endLoop (P := P) hst (by rw [hr0e]; simp)).trans (congrArg (fun p => Result.ok p _) ep), ?_⟩
          exact ⟨fr, .on, hS.act rfl, by rw [d1]; exact hk, d2, Agr.refl _ _⟩
        | off j up =>
          obtain ⟨e, q1, hj, hst⟩ := hst
          simp only at hX hk
          have hk := selJ_spec q1 hk
          obtain ⟨d1, d2⟩ := done { r0 with state := .exhausted, pending := some (jcode e) } _ up hst hX
          refine ⟨_, _, run_endLoop (P := P) hst (by simp), ?_⟩
          have hq : QA y n ro B C Inv (mods (.rangeFunc f ps as body)) fr K e { a with defers := mark ++ a.defers } ({ w3 with heap := w3.heap.setIfInBounds L (.loop { r0 with state := .exhausted, pending := some (jcode e) }) } : World) :=
            ⟨fr, up, hS.act rfl, by rw [d1]; exact hk, d2, Agr.refl _ _⟩
          cases e with
          | exit id => exact wpIn_exit hq
          | ret => exact wpIn_ret hq
          | normal => cases hj
          | goto l => cases hj
          | panic c => cases hj
          | outgrown => cases hj

end
end Go.V
