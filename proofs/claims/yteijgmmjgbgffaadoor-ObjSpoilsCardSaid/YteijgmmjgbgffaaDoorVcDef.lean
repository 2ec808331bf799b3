/- A reckoner of what a piece of Go code asks of the heap: 'vc'. The heap is seen as a plain function from block numbers to rows of cells. No program in sight. -/
import GoSem.Step
import Derived.RangeFuncLeaves
import Derived.OrdersIn
import Derived.Still
import Derived.KernelRfl
namespace Go.V

abbrev Hp := Nat → Option (List Value)

/-- A cell that isn't to be seen. -/
def nmO : Value → Option Value
  | .tuple _ => none
  | v => some v

/-- Which types of rows of cells are to be seen behind the cells. -/
class Sp where
  sp : TypeId → Bool

def notT : Value → Bool
  | .tuple _ => false
  | _ => true

/-- A cell as it is seen: what is frozen, and what is a tuple, are marked. -/
def emb : Value → Value
  | .tuple vs => .tuple ⟨[.tuple vs, .tuple ⟨[]⟩]⟩
  | v => v

def maskL (lo hi : Nat) (l : List Value) : List Value := l.mapIdx fun i v => if lo ≤ i ∧ i < hi then .tuple ⟨[v]⟩ else emb v

def tyM (t : TypeId) (lo hi : Nat) : Value := .tuple ⟨[.int .i64 (t : Nat), .int .i64 lo, .int .i64 hi, .bool true, .bool true]⟩
def mkT [Sp] (t : TypeId) (fz : Nat × Nat := (0, 0)) : List Value := bif Sp.sp t then [tyM t fz.1 fz.2] else []
def mkl (l : List Value) (m : List Value) : List Value :=
  match m with
  | [] => l
  | m => l ++ m

/-- A map as it is seen. -/
def mapV (es : List MapEntry) (clock : Nat) : List Value := .tuple ⟨[.int .i64 clock, .bool true, .bool true]⟩ :: es.map fun e => .tuple ⟨[.int .i64 e.born, e.key, e.val]⟩

def optV : Option Nat → Value
  | none => .bool false
  | some n => .int .i64 n

/-- An iterator over a map as it is seen. -/
def iterV (m : Option Nat) (since : Nat) (seen : List Nat) (stepped : Nat) : List Value :=
  .tuple ⟨[optV m, .int .i64 since, .int .i64 stepped, .bool true]⟩ :: seen.map fun (n : Nat) => .tuple ⟨[.int .i64 (n : Int), .bool true, .bool true]⟩

def objB [Sp] : Obj → Option (List Value)
  | .cells c t fz => some (mkl (maskL fz.1 fz.2 c.toList) (mkT t fz))
  | .map es clock => some (mapV es.toList clock)
  | .mapIter m since seen stepped => some (iterV m since seen.toList stepped)
  | _ => none

def hp [Sp] (w : World) : Hp := fun b => (w.heap[b]?).bind objB

def rd (H : Hp) (b o : Nat) : Option Value := (H b).bind fun c => (c[o]?).bind nmO
def upd (H : Hp) (b : Nat) (c : List Value) : Hp := fun x => if x = b then some c else H x
def wr (H : Hp) (b o : Nat) (v : Value) : Hp := fun x => if x = b then (H b).map (fun c => c.set o v) else H x

/-- An object's kind (a row's type), what of it is frozen, how many cells it has. -/
def tagOf : Obj → Option (Nat × Nat × Nat × Nat)
  | .cells c t fz => some ((t : Nat) + 2, fz.1, fz.2, c.size)
  | .map _ _ => some (0, 0, 0, 0)
  | .mapIter .. => some (1, 0, 0, 0)
  | _ => none
def tagAt (w : World) (b : Nat) : Option (Nat × Nat × Nat × Nat) := (w.heap[b]?).bind tagOf

/-- A kind stays; more may be frozen. -/
def TagLe (x y : Option (Nat × Nat × Nat × Nat)) : Prop :=
  y = x ∨ ∃ k l h l' h' n, x = some (k, l, h, n) ∧ y = some (k, l', h', n) ∧ (∀ i, i < n → l ≤ i → i < h → l' ≤ i ∧ i < h') ∧ ∃ i, i < n ∧ (l' ≤ i ∧ i < h') ∧ ¬ (l ≤ i ∧ i < h)

/-- What lies at or above B and isn't to be seen stays as it is. -/
structure Ge [Sp] (B : Nat) (w w' : World) : Prop where
  size : w.heap.size ≤ w'.heap.size
  keep : ∀ b, B ≤ b → b < w.heap.size → hp w b = none → w'.heap[b]? = w.heap[b]?
  tape : w'.tape = w.tape
  os : w'.os = w.os
  output : w'.output = w.output
  tags : ∀ b, B ≤ b → b < w.heap.size → TagLe (tagAt w b) (tagAt w' b)

/-- What lies below C and isn't to be seen stays as it is. -/
structure Lt [Sp] (C : Nat) (w w' : World) : Prop where
  size : w.heap.size ≤ w'.heap.size
  keep : ∀ b, b < C → b < w.heap.size → hp w b = none → w'.heap[b]? = w.heap[b]?
  tape : w'.tape = w.tape
  os : w'.os = w.os
  output : w'.output = w.output
  tags : ∀ b, b < C → b < w.heap.size → TagLe (tagAt w b) (tagAt w' b)

/-- May yield still be called, or was a jump taken (and how stands the outer loop). -/
inductive Al where
  | on
  | off (j : Nat) (up : Al)

def Al.isOn : Al → Bool
  | .on => true
  | .off _ _ => false

inductive AV where
  | v (x : Value)
  | Y

abbrev Fr := List (Nat × AV)

def Fr.get : Fr → Nat → Option AV
  | [], _ => none
  | (j, x) :: r, i => bif Nat.beq j i then some x else Fr.get r i

def Fr.drop (fr : Fr) (ms : List Nat) : Fr := fr.filter fun p => !(ms.any (Nat.beq p.1))

def Fr.setAll : Fr → List Nat → List Value → Fr
  | fr, i :: is, v :: vs => Fr.setAll ((i, .v v) :: fr) is vs
  | fr, _, _ => fr

def evA (fr : Fr) : Operand → Option AV
  | .tmp t => fr.get t
  | .const v => some (.v v)
  | .global g => some (.v (.pointer (some ⟨g, 0, none⟩)))
  | .func f => some (.v (.func (.func f) #[] #[]))

def ev (fr : Fr) (x : Operand) : Option Value :=
  match evA fr x with
  | some (.v v) => some v
  | _ => none

def evs (fr : Fr) : List Operand → Option (List Value)
  | [] => some []
  | x :: r => match ev fr x, evs fr r with
    | some v, some vs => some (v :: vs)
    | _, _ => none

/-! ### Shapes -/
inductive Sh where
  | int (k : IntKind) | bool | str | ptr | slice | map | any
  deriving DecidableEq

def ldI (k : IntKind) (x : Option Value) (F : Int → Prop) : Prop := ∃ n : Int, x = some (.int k n) ∧ F n
def ldB (x : Option Value) (F : Bool → Prop) : Prop := ∃ b : Bool, x = some (.bool b) ∧ F b
def ldS (x : Option Value) (F : ByteArray → Prop) : Prop := ∃ s : ByteArray, x = some (.string s) ∧ F s
def ldP (x : Option Value) (F : Option Addr → Prop) : Prop := ∃ p : Option Addr, x = some (.pointer p) ∧ F p
def ldL (x : Option Value) (F : Option Addr → Nat → Nat → Prop) : Prop := ∃ (p : Option Addr) (l c : Nat), x = some (.slice p l c) ∧ F p l c
def ldM (x : Option Value) (F : Option Nat → Prop) : Prop := ∃ m : Option Nat, x = some (.map m) ∧ F m
def ldV (x : Option Value) (F : Value → Prop) : Prop := ∃ v : Value, x = some v ∧ F v

def ldSh (s : Sh) (x : Option Value) (F : Value → Prop) : Prop :=
  match s with
  | .int k => ldI k x fun n => F (.int k n)
  | .bool => ldB x fun b => F (.bool b)
  | .str => ldS x fun s => F (.string s)
  | .ptr => ldP x fun p => F (.pointer p)
  | .slice => ldL x fun p l c => F (.slice p l c)
  | .map => ldM x fun m => F (.map m)
  | .any => ldV x F

/-- Cells o, o + 1, .. of block b, by their shapes. -/
def ldAgg (H : Hp) (b : Nat) : Nat → List Sh → (List Value → Prop) → Prop
  | _, [], F => F []
  | o, s :: r, F => ldSh s (rd H b o) fun v => ldAgg H b (o + 1) r fun vs => F (v :: vs)

def liftI (k : IntKind) (v : Value) (F : Int → Prop) : Prop :=
  match v with
  | .int k' n => match decEq k k' with
    | isTrue _ => F n
    | isFalse _ => False
  | _ => False
def liftB (v : Value) (F : Bool → Prop) : Prop := match v with | .bool b => F b | _ => False
def liftS (v : Value) (F : ByteArray → Prop) : Prop := match v with | .string b => F b | _ => False
def liftP (v : Value) (F : Option Addr → Prop) : Prop := match v with | .pointer b => F b | _ => False
def liftL (v : Value) (F : Option Addr → Nat → Nat → Prop) : Prop := match v with | .slice p l c => F p l c | _ => False
def liftM (v : Value) (F : Option Nat → Prop) : Prop := match v with | .map b => F b | _ => False

def lift (s : Sh) (v : Value) (F : Value → Prop) : Prop :=
  match s with
  | .int k => liftI k v fun n => F (.int k n)
  | .bool => liftB v fun n => F (.bool n)
  | .str => liftS v fun n => F (.string n)
  | .ptr => liftP v fun n => F (.pointer n)
  | .slice => liftL v fun p l c => F (.slice p l c)
  | .map => liftM v fun n => F (.map n)
  | .any => F v

def d0 (vs : List Value) (F : Prop) : Prop := match vs with | [] => F | _ => False
def d1 (vs : List Value) (F : Value → Prop) : Prop := match vs with | [a] => F a | _ => False
def d2 (vs : List Value) (F : Value → Value → Prop) : Prop := match vs with | [a, b] => F a b | _ => False
def d3 (vs : List Value) (F : Value → Value → Value → Prop) : Prop := match vs with | [a, b, c] => F a b c | _ => False
def d4 (vs : List Value) (F : Value → Value → Value → Value → Prop) : Prop := match vs with | [a, b, c, d] => F a b c d | _ => False
def d5 (vs : List Value) (F : Value → Value → Value → Value → Value → Prop) : Prop := match vs with | [a, b, c, d, e] => F a b c d e | _ => False
def d6 (vs : List Value) (F : Value → Value → Value → Value → Value → Value → Prop) : Prop := match vs with | [a, b, c, d, e, f] => F a b c d e f | _ => False

def lifts (l : List Sh) (vs : List Value) (F : List Value → Prop) : Prop :=
  match l with
  | [] => d0 vs (F [])
  | [s] => d1 vs fun a => lift s a fun x => F [x]
  | [s, t] => d2 vs fun a b => lift s a fun x => lift t b fun y => F [x, y]
  | [s, t, u] => d3 vs fun a b c => lift s a fun x => lift t b fun y => lift u c fun z => F [x, y, z]
  | [s, t, u, v] => d4 vs fun a b c d => lift s a fun x => lift t b fun y => lift u c fun z => lift v d fun z' => F [x, y, z, z']
  | [s, t, u, v, s'] => d5 vs fun a b c d e => lift s a fun x => lift t b fun y => lift u c fun z => lift v d fun x' => lift s' e fun y' => F [x, y, z, x', y']
  | [s, t, u, v, s', t'] => d6 vs fun a b c d e f => lift s a fun x => lift t b fun y => lift u c fun z => lift v d fun x' => lift s' e fun y' => lift t' f fun z' => F [x, y, z, x', y', z']
  | _ => False

def aggV (v : Value) (F : List Value → Prop) : Prop := match v with | .agg cs => F cs.toList | _ => False
def tupV (v : Value) (F : List Value → Prop) : Prop := match v with | .tuple cs => F cs.toList | _ => False

/-! ### Variables of a loop -/
def FT : List Sh → Type → Type
  | [], B => B
  | .int _ :: r, B => Int → FT r B
  | .bool :: r, B => Bool → FT r B
  | .str :: r, B => ByteArray → FT r B
  | .ptr :: r, B => Option Addr → FT r B
  | .slice :: r, B => Option Addr → Nat → Nat → FT r B
  | .map :: r, B => Option Nat → FT r B
  | .any :: r, B => Value → FT r B

def FT.app {B : Type} : (l : List Sh) → FT l B → List Value → Option B
  | [], f, [] => some f
  | .int k :: r, f, .int k' n :: vs => match decEq k k' with
    | isTrue _ => FT.app r (f n) vs
    | isFalse _ => none
  | .bool :: r, f, .bool n :: vs => FT.app r (f n) vs
  | .str :: r, f, .string n :: vs => FT.app r (f n) vs
  | .ptr :: r, f, .pointer n :: vs => FT.app r (f n) vs
  | .slice :: r, f, .slice p l c :: vs => FT.app r (f p l c) vs
  | .map :: r, f, .map n :: vs => FT.app r (f n) vs
  | .any :: r, f, v :: vs => FT.app r (f v) vs
  | _, _, _ => none

def FT.all : (l : List Sh) → (List Value → Prop) → Prop
  | [], F => F []
  | .int k :: r, F => ∀ n : Int, FT.all r fun vs => F (.int k n :: vs)
  | .bool :: r, F => ∀ n : Bool, FT.all r fun vs => F (.bool n :: vs)
  | .str :: r, F => ∀ n : ByteArray, FT.all r fun vs => F (.string n :: vs)
  | .ptr :: r, F => ∀ n : Option Addr, FT.all r fun vs => F (.pointer n :: vs)
  | .slice :: r, F => ∀ (p : Option Addr) (l c : Nat), FT.all r fun vs => F (.slice p l c :: vs)
  | .map :: r, F => ∀ n : Option Nat, FT.all r fun vs => F (.map n :: vs)
  | .any :: r, F => ∀ n : Value, FT.all r fun vs => F (n :: vs)

def appP {l : List Sh} (I : FT l (Hp → Prop)) (vs : List Value) (H : Hp) : Prop :=
  match FT.app l I vs with
  | some i => i H
  | none => False

def appN {l : List Sh} (μ : FT l (Hp → Nat)) (vs : List Value) (H : Hp) : Nat :=
  match FT.app l μ vs with
  | some i => i H
  | none => 0

def getVals (fr : Fr) : List Nat → Option (List Value)
  | [] => some []
  | i :: r => match fr.get i, getVals fr r with
    | some (.v v), some vs => some (v :: vs)
    | _, _ => none

/-! ### Types -/
inductive TD where
  | sc
  | st (fs : List (Nat × TypeId))
  | ar (n : Nat) (e : TypeId)
  | sl (e : TypeId)
  | tup (ts : List TypeId)

structure TE where
  d : TD
  size : Nat
  bytes : Nat
  sh : List Sh
  zc : List Value
  tl : List Value

def shD : Sh → TypeDesc → Bool
  | .int k, .int k' => k == k'
  | .bool, .bool => true
  | .str, .string => true
  | .ptr, .pointer _ => true
  | .ptr, .unsafePointer => true
  | .map, .map _ _ => true
  | .any, .func _ _ _ => true
  | .any, .interface _ => true
  | _, _ => false

/-- The table of types tells the truth. -/
def TSpec [Sp] (P : Program) (t : TypeId) (e : TE) : Prop :=
  e.tl = mkT t ∧ e.zc.all notT = true ∧
  ∃ (i : TypeInfo) (d : TypeDesc), P.info? t = some i ∧ P.underlying t = some d ∧ i.size = e.size ∧ i.bytes = e.bytes ∧
    match e.d with
    | .sc => e.size = 1 ∧ (∃ s z, e.sh = [s] ∧ shD s d = true ∧ e.zc = [z] ∧ i.zero = some z ∧ z.oneCell' = true)
    | .sl el => e.size = 1 ∧ d = .slice el ∧ e.sh = [.slice] ∧ e.zc = [.slice none 0 0] ∧ i.zero = some (.slice none 0 0)
    | .st fs => i.zero = some (.agg ⟨e.zc⟩) ∧ e.zc.length = e.size ∧ e.sh.length = e.size ∧ ∃ fields, d = .struct fields ∧ fields.toList.map (fun f => (f.offset, f.type)) = fs ∧ P.stoodInHeld t = false ∧ P.eqGuardType P.depth t = false ∧ (∀ f ∈ fields.toList, f.name ≠ "_")
    | .ar n el => i.zero = some (.agg ⟨e.zc⟩) ∧ d = .array n el
    | .tup _ => True

abbrev Tab := TypeId → Option TE

def Tab.of : List (TypeId × TE) → Tab
  | [], _ => none
  | (j, x) :: r, i => bif Nat.beq j i then some x else Tab.of r i

def TOk [Sp] (P : Program) (T : Tab) : Prop := ∀ t e, T t = some e → TSpec P t e

theorem TOk.nil [Sp] (P : Program) : TOk P (Tab.of []) := fun _ _ h => by simp [Tab.of] at h
theorem TOk.cons [Sp] {P : Program} {t : TypeId} {e : TE} {l : List (TypeId × TE)} (h : TSpec P t e) (hl : TOk P (Tab.of l)) : TOk P (Tab.of ((t, e) :: l)) := by
  intro u x hu
  simp only [Tab.of] at hu
  cases hb : Nat.beq t u with
  | true =>
    rw [hb] at hu
    simp only [cond_true, Option.some.injEq] at hu
    have := Nat.eq_of_beq_eq_true hb
    subst this; subst hu; exact h
  | false => rw [hb] at hu; exact hl u x hu

/-! ### Small transformers -/
def bc (b : Bool) (A B : Prop) : Prop := match b with | true => A | false => B
def IDX (i : Int) (n : Nat) (F : Nat → Prop) : Prop := ∃ k : Nat, i = (k : Int) ∧ k < n ∧ F k
def NIL (p : Option Addr) (F : Nat → Nat → Prop) : Prop :=
  match p with
  | some ⟨b, o, none⟩ => F b o
  | _ => False
def ST (H : Hp) (b o : Nat) (v : Value) (K : Hp → Prop) : Prop := (rd H b o).isSome = true ∧ K (wr H b o v)
def stAll (b : Nat) : Nat → List Value → Hp → (Hp → Prop) → Prop
  | _, [], H, K => K H
  | o, v :: vs, H, K => ST H b o v fun H' => stAll b (o + 1) vs H' K
def NEW (H : Hp) (c : List Value) (F : Nat → Hp → Prop) : Prop := ∀ b, H b = none → F b (upd H b c)
def CHK (k : IntKind) (e : Int) (F : Int → Prop) : Prop := (k.min ≤ e ∧ e ≤ k.max) ∧ F e
/-- Sums of 64 bits without sign turn round; of all others it is asked that they fit. -/
def ARI (k : IntKind) (e : Int) (F : Int → Prop) : Prop :=
  match k with
  | .u64 => F (IntKind.wrap .u64 e)
  | k => CHK k e F
def mulS (i s : Nat) : Nat := bif Nat.beq s 1 then i else i * s
def isCell : Value → Bool
  | .agg _ => false
  | .tuple _ => false
  | _ => true
def cellsL : Value → List Value
  | .agg cs => cs.toList
  | v => [v]
def rep (n : Nat) (zc : List Value) : List Value :=
  match zc with
  | [z] => List.replicate n z
  | zc => (List.replicate n zc).flatten
def widen : IntKind → IntKind → Bool
  | .i8, .i8 | .i8, .i16 | .i8, .i32 | .i8, .i64 | .i16, .i16 | .i16, .i32 | .i16, .i64 | .i32, .i32 | .i32, .i64 | .i64, .i64 => true
  | .u8, .u8 | .u8, .u16 | .u8, .u32 | .u8, .u64 | .u8, .i16 | .u8, .i32 | .u8, .i64 => true
  | .u16, .u16 | .u16, .u32 | .u16, .u64 | .u16, .i32 | .u16, .i64 => true
  | .u32, .u32 | .u32, .u64 | .u32, .i64 | .u64, .u64 => true
  | _, _ => false

/-! ### What is asked of the code that is called -/
def Ent (P : Program) (k : FuncId) : Prop := ∃ fn, P.funcs[k]? = some fn ∧ fn.body.isSome = true ∧ (fn.name == "runtime.NumGoroutine") = false

/-- A call of code, or of what the model has in its place where there is none. -/
def CallR (P : Program) (k : FuncId) (args : List Value) (w : World) (R : Value → World → Prop) : Prop :=
  (Ent P k ∧ Calls P k ⟨args⟩ w fun e w' => ∃ v, e = .returned v ∧ R v w') ∨
    ((∃ fn, P.funcs[k]? = some fn ∧ fn.body = none) ∧ ∃ v w', (callFunc k ⟨args⟩).run P w = .ok (.value v) w' ∧ R v w')

def CallH [Sp] (P : Program) (k : FuncId) (args : List Value) (H : Hp) (K : Value → Hp → Prop) : Prop :=
  ∀ w, hp w = H → CallR P k args w fun v w' => K v (hp w') ∧ Ge 0 w w'

def CallV [Sp] (P : Program) (f : Value) (args : List Value) (H : Hp) (K : Value → Hp → Prop) : Prop :=
  match f with
  | .func (.func k) first cap => CallH P k (first.toList ++ (args ++ cap.toList)) H K
  | _ => False

def jcode : Exit → Code
  | .exit id => .exit id
  | .goto l => .goto l
  | _ => .ret

def isJump : Exit → Bool
  | .exit _ | .ret => true
  | _ => false

/-- The loop's record, by what has become of it. -/
def stOk (r : Loop) (L : Nat) (js : List Exit) (al : Al) (w : World) : Prop :=
  match al with
  | .on => w.heap[L]? = some (.loop r)
  | .off j _ => ∃ e, js[j]? = some e ∧ isJump e = true ∧ w.heap[L]? = some (.loop { r with state := .done, pending := some (jcode e) })

def yv (L : Nat) : Value := .func (.yield L) #[] #[]

abbrev GT := List Value → Hp → (Al → Hp → Prop) → Prop
/-- The yield of an iterator: its number, what is asked where it is called. -/
structure YG where
  L : Nat
  g : GT
def isF : Operand → Bool
  | .func _ => true
  | _ => false

def YOk [Sp] (P : Program) (L : Nat) (G : GT) (B : Nat) (X : Al → World → Prop) : Prop :=
  ∀ vals (Kb : Al → Hp → Prop) w, X .on w → G vals (hp w) Kb →
    ∃ fn tmps as body, (Instr.yield L ⟨vals⟩).run P w = .ok (.round L fn tmps as body) w ∧
      RoundIn Fence.wide 0 P L fn tmps as body w fun e w' => ∃ al, e = .returned (.bool al.isOn) ∧ Kb al (hp w') ∧ X al w' ∧ Ge B w w'

def ITER [Sp] (P : Program) (k : FuncId) (pre post : List Value) (H : Hp) (G : GT) (K : Al → Hp → Prop) : Prop :=
  Ent P k ∧ ∀ w L (X : Al → World → Prop), hp w = H → L < w.heap.size → (∀ al w w', X al w → Lt (L + 1) w w' → X al w') → X .on w →
    YOk P L G (L + 1) X →
    Calls P k ⟨pre ++ (yv L :: post)⟩ w fun e w' => ∃ v al, e = .returned v ∧ K al (hp w') ∧ X al w' ∧ Ge (L + 1) w w'

def ITERV [Sp] (P : Program) (f : Value) (H : Hp) (G : GT) (K : Al → Hp → Prop) : Prop :=
  match f with
  | .func (.func k) first cap => ITER P k first.toList cap.toList H G K
  | _ => False

/-! ### Operations -/
def isSh (T : Tab) (t : TypeId) (s : Sh) : Bool :=
  match T t with
  | some te => match te.d, te.sh with
    | .sc, [x] => decide (x = s)
    | .sl _, [x] => decide (x = s)
    | _, _ => false
  | none => false

def ordI (op : BinOp) (a b : Int) : Option Bool :=
  match op with
  | .eql => some (decide (a = b))
  | .neq => some (decide (¬ a = b))
  | .lss => some (decide (a < b))
  | .leq => some (decide (a ≤ b))
  | .gtr => some (decide (b < a))
  | .geq => some (decide (b ≤ a))
  | _ => none

def iand (k : IntKind) (x y : Int) : Int := k.wrap (BitVec.ofInt k.bits x &&& BitVec.ofInt k.bits y).toNat
def ior (k : IntKind) (x y : Int) : Int := k.wrap (BitVec.ofInt k.bits x ||| BitVec.ofInt k.bits y).toNat
def ixor (k : IntKind) (x y : Int) : Int := k.wrap (BitVec.ofInt k.bits x ^^^ BitVec.ofInt k.bits y).toNat
def inot (k : IntKind) (x y : Int) : Int := k.wrap (BitVec.ofInt k.bits x &&& ~~~ BitVec.ofInt k.bits y).toNat
def ishl (k : IntKind) (x y : Int) : Int := k.wrap (x * 2 ^ (min y.toNat k.bits))
def ishr (k : IntKind) (x y : Int) : Int := x.fdiv (2 ^ (min y.toNat k.bits))

/-- A part of a struct's cells. -/
def partL (te : TE) (cs : List Value) (off : Nat) : Option Value :=
  match te.d with
  | .sc | .sl _ => cs[off]?
  | .st _ | .ar _ _ => some (.agg ⟨(cs.drop off).take te.size⟩)
  | .tup _ => none

/-- Equality of structs, where it looks at no memory. -/
def eqFs (T : Tab) (eqv : TypeId → Value → Value → Option Bool) : List (Nat × TypeId) → List Value → List Value → Option Bool
  | [], _, _ => some true
  | (o, t) :: r, xs, ys => match T t with
    | none => none
    | some te => match partL te xs o, partL te ys o with
      | some a, some b => match eqv t a b with
        | none => none
        | some u => match r with
          | [] => some u
          | r => match eqFs T eqv r xs ys with
            | none => none
            | some v => some (u && v)
      | _, _ => none

def eqVal (T : Tab) : Nat → TypeId → Value → Value → Option Bool
  | 0, _, _, _ => none
  | d + 1, t, x, y => match T t with
    | none => none
    | some te => match te.d, te.sh, x, y with
      | .sc, [.int _], .int k a, .int k' b => match decEq k k' with
        | isTrue _ => some (decide (a = b))
        | isFalse _ => none
      | .sc, [.bool], .bool a, .bool b => some (decide (a = b))
      | .sc, [.str], .string a, .string b => some (decide (a = b))
      | .st fs, _, .agg xs, .agg ys => eqFs T (eqVal T d) fs xs.toList ys.toList
      | _, _, _, _ => none

/-- Two pointers held against one another: as the model does it. -/
def PEQ (P : Program) (t : TypeId) (op : BinOp) (p : Option Addr) (a : Addr) (F : Bool → Prop) : Prop :=
  ∃ r, (∀ w, (binOp op t (.pointer p) (.pointer (some a))).run P w = .ok (.bool r) w) ∧ F r

def ptC (q : Option Addr) (A : Prop) (B : Addr → Prop) : Prop :=
  match q with
  | none => A
  | some a => B a

def vcBin (P : Program) (T : Tab) (op : BinOp) (xt : TypeId) (x y : Value) (F : Value → Prop) : Prop :=
  match x, y with
  | .int k a, .int k' b =>
    match op with
    | .shl => 0 ≤ b ∧ F (.int k (ishl k a b))
    | .shr => 0 ≤ b ∧ F (.int k (ishr k a b))
    | op => match decEq k k' with
      | isFalse _ => False
      | isTrue _ => match op with
        | .add => ARI k (a + b) fun r => F (.int k r)
        | .sub => ARI k (a - b) fun r => F (.int k r)
        | .mul => ARI k (a * b) fun r => F (.int k r)
        | .quo => ¬ b = 0 ∧ CHK k (a.tdiv b) fun r => F (.int k r)
        | .rem => ¬ b = 0 ∧ F (.int k (a.tmod b))
        | .and => F (.int k (iand k a b))
        | .or => F (.int k (ior k a b))
        | .xor => F (.int k (ixor k a b))
        | .andNot => F (.int k (inot k a b))
        | op => match ordI op a b with
          | some r => F (.bool r)
          | none => False
  | .bool a, .bool b => bif isSh T xt .bool then
      match op with
      | .eql => F (.bool (decide (a = b)))
      | .neq => F (.bool (decide (¬ a = b)))
      | _ => False
    else False
  | .string a, .string b =>
    match op with
    | .eql => F (.bool (decide (a = b)))
    | .neq => F (.bool (decide (¬ a = b)))
    | .add => ((a.size + b.size : Nat) : Int) ≤ 9223372036854775807 ∧ F (.string (a ++ b))
    | .lss => F (.bool (Op.bytesLess a.toList b.toList))
    | .gtr => F (.bool (!(Op.bytesLess a.toList b.toList || decide (a = b))))
    | .leq => F (.bool (Op.bytesLess a.toList b.toList || decide (a = b)))
    | .geq => F (.bool (!Op.bytesLess a.toList b.toList))
    | _ => False
  | .pointer p, .pointer q => ptC q
      (bif isSh T xt .ptr then
        match op with
        | .eql => F (.bool (decide (p = none)))
        | .neq => F (.bool (decide (¬ p = none)))
        | _ => False
      else False)
      (fun a => PEQ P xt op p a fun r => F (.bool r))
  | .slice p _ _, .slice none _ _ => bif isSh T xt .slice then
      match op with
      | .eql => F (.bool (decide (p = none)))
      | .neq => F (.bool (decide (¬ p = none)))
      | _ => False
    else False
  | .map p, .map none => bif isSh T xt .map then
      match op with
      | .eql => F (.bool (decide (p = none)))
      | .neq => F (.bool (decide (¬ p = none)))
      | _ => False
    else False
  | .agg xs, .agg ys =>
    match op, eqVal T 8 xt (.agg xs) (.agg ys) with
    | .eql, some r => F (.bool r)
    | .neq, some r => F (.bool (!r))
    | _, _ => False
  | _, _ => False

def vcUn (op : UnOp) (x : Value) (F : Value → Prop) : Prop :=
  match op, x with
  | .not, .bool b => F (.bool (!b))
  | .neg, .int k a => ARI k (0 - a) fun r => F (.int k r)
  | .xor, .int k a => F (.int k (ixor k (if k.signed then -1 else k.max) a))
  | _, _ => False

/-- Bytes o .. of block b. -/
def BTS (H : Hp) (p : Option Addr) (n : Nat) (F : ByteArray → Prop) : Prop :=
  match p with
  | none => F .empty
  | some ⟨b, o, none⟩ => ∃ l : List UInt8, l.length = n ∧ (∀ i x, l[i]? = some x → rd H b (o + i) = some (.int .u8 x.toNat)) ∧ F ⟨⟨l⟩⟩
  | _ => False

/-- A conversion of a pointer: as the model does it. -/
def CNV [Sp] (P : Program) (src dst : TypeId) (p : Option Addr) (H : Hp) (F : Option Addr → Prop) : Prop :=
  ∃ q, (∀ w, hp w = H → (convert src dst (.pointer p)).run P w = .ok (.pointer q) w) ∧ F q

def vcConv [Sp] (P : Program) (T : Tab) (src dst : TypeId) (x : Value) (H : Hp) (F : Value → Hp → Prop) : Prop :=
  match T src, T dst with
  | some se, some te =>
    match te.d, te.sh, x with
    | .sc, [.int k'], .int k n => bif widen k k' then CHK k' n fun n => F (.int k' n) H else F (.int k' (k'.wrap n)) H
    | .sc, [.str], .string s => F (.string s) H
    | .sc, [.ptr], .pointer p => CNV P src dst p H fun q => F (.pointer q) H
    | .sc, [.str], .slice p n _ => match se.d with
      | .sl e => bif isSh T e (.int .u8) then BTS H p n fun s => F (.string s) H else False
      | _ => False
    | _, _, _ => False
  | _, _ => False

def opI (fr : Fr) (x : Option Operand) : Option (Option Int) :=
  match x with
  | none => some none
  | some o => match ev fr o with
    | some (.int _ n) => some (some n)
    | _ => none

/-- low, high of a slice expression. -/
def BND (lo hi : Option Int) (len cap : Nat) (F : Nat → Nat → Prop) : Prop :=
  match lo, hi with
  | none, none => F 0 len
  | none, some h => ∃ k : Nat, h = (k : Int) ∧ k ≤ cap ∧ F 0 k
  | some l, none => ∃ j : Nat, l = (j : Int) ∧ j ≤ len ∧ F j len
  | some l, some h => ∃ j k : Nat, l = (j : Int) ∧ h = (k : Int) ∧ k ≤ cap ∧ j ≤ k ∧ F j k

/-- A slice's address moved on by j elements of s cells, where something is left (m: the capacity). -/
def movA (p : Option Addr) (j s m : Nat) : Option Addr :=
  match p with
  | none => none
  | some ⟨b, o, none⟩ => if m = j then some ⟨b, o, none⟩ else some ⟨b, o + mulS j s, none⟩
  | some a => some (if m = j then a else a.add (j * s))

def vcSlice (T : Tab) (t : TypeId) (x : Value) (lo hi mx : Option (Option Int)) (F : Value → Prop) : Prop :=
  match T t, x, lo, hi, mx with
  | some te, .slice p len cap, some lo, some hi, some none =>
    match te.d with
    | .sl e => match T e with
      | some te' => BND lo hi len cap fun j k => F (.slice (movA p j te'.size cap) (k - j) (cap - j))
      | none => False
    | _ => False
  | some te, .slice p len cap, some lo, some (some h), some (some m) =>
    match te.d with
    | .sl e => match T e with
      | some te' => ∃ m' : Nat, m = (m' : Int) ∧ m' ≤ cap ∧ BND lo (some h) len m' fun j k => F (.slice (movA p j te'.size m') (k - j) (m' - j))
      | none => False
    | _ => False
  | some _, .string s, some lo, some hi, some none =>
    bif isSh T t .str then BND lo hi s.size s.size fun j k => F (.string (s.extract j k)) else False
  | some te, .pointer (some ⟨b, o, none⟩), some lo, some hi, some none =>
    match te.d with
    | .ar n e => match T e with
      | some te' => BND lo hi n n fun j k => F (.slice (movA (some ⟨b, o, none⟩) j te'.size n) (k - j) (n - j))
      | none => False
    | _ => False
  | _, _, _, _, _ => False

/-- n cells from o on, whatever they are. -/
def rdN (H : Hp) (b o n : Nat) (cs : List Value) : Prop := cs.length = n ∧ ∀ i v, cs[i]? = some v → rd H b (o + i) = some v

def srcCells (H : Hp) (s : Nat) (x : Value) (F : Nat → List Value → Prop) : Prop :=
  match x with
  | .slice none n _ => F n []
  | .slice (some ⟨b, o, none⟩) n _ => ∃ cs, rdN H b o (n * s) cs ∧ F n cs
  | .slice (some ⟨_, _, some _⟩) n _ => n = 0 ∧ F 0 []
  | .string y => F y.size (y.data.toList.map fun b => Value.int .u8 b.toNat)
  | _ => False

def wrN (H : Hp) (b : Nat) : Nat → List Value → Hp
  | _, [] => H
  | o, v :: vs => wrN (wr H b o v) b (o + 1) vs

/-- append(s, x..). -/
def APP (H : Hp) (te : TE) (p : Option Addr) (len cap : Nat) (x : Value) (F : Option Addr → Nat → Nat → Hp → Prop) : Prop :=
  srcCells H te.size x fun n new =>
    (len + n ≤ cap → match p with
      | none => F none (len + n) cap H
      | some ⟨b, o, none⟩ => (∀ i, i < new.length → (rd H b (o + len * te.size + i)).isSome = true) ∧ (∀ v ∈ new, isCell v = true) ∧ F p (len + n) cap (wrN H b (o + len * te.size) new)
      | _ => False) ∧
    (cap < len + n → Builtin.nextslicecap (len + n) cap * te.bytes ≤ 281474976710656 ∧ 0 < te.bytes ∧
      srcCells H te.size (.slice p len cap) fun _ old =>
        ∀ c b, H b = none → len + n ≤ c → F (some ⟨b, 0, none⟩) (len + n) c (upd H b (mkl (old ++ (new ++ rep (c - (len + n)) te.zc)) te.tl)))

def vcLen (T : Tab) (t : TypeId) (x : Value) (F : Value → Prop) : Prop :=
  match T t, x with
  | some te, .slice _ n _ => match te.d with
    | .sl _ => F (.int .i64 n)
    | _ => False
  | some _, .string s => bif isSh T t .str then F (.int .i64 s.size) else False
  | some te, _ => match te.d with
    | .ar n _ => F (.int .i64 n)
    | _ => False
  | none, _ => False

def foldI (f : Int → Int → Int) : Int → List Value → Option Int
  | a, [] => some a
  | a, .int _ b :: r => foldI f (f a b) r
  | _, _ => none

def bLen (T : Tab) (ts : List TypeId) (args : List Value) (F : Value → Prop) : Prop :=
  match ts, args with
  | t :: _, x :: _ => vcLen T t x F
  | _, _ => False

def bCap (T : Tab) (ts : List TypeId) (args : List Value) (F : Value → Prop) : Prop :=
  match ts, args with
  | t :: _, .slice _ _ c :: _ => match T t with
    | some te => match te.d with
      | .sl _ => F (.int .i64 c)
      | _ => False
    | none => False
  | _, _ => False

def bFold (f : Int → Int → Int) (args : List Value) (F : Value → Prop) : Prop :=
  match args with
  | .int k a :: r => match foldI f a r with
    | some n => F (.int k n)
    | none => False
  | _ => False

def noTup (te : TE) : Bool :=
  match te.d with
  | .tup _ => false
  | .ar _ _ => false
  | _ => true

def notInt (te : TE) : Bool :=
  match te.d, te.sh with
  | .sc, [.str] => true
  | .sl _, [_] => true
  | _, _ => false

def bApp (T : Tab) (ts : List TypeId) (args : List Value) (H : Hp) (F : Value → Hp → Prop) : Prop :=
  match ts, args with
  | t :: u :: _, .slice p len cap :: x :: _ => match T t, T u with
    | some te, some ue => match te.d with
      | .sl e => bif notInt ue then
          match T e with
          | some te' => bif noTup te' then APP H te' p len cap x fun p n c H' => F (.slice p n c) H' else False
          | none => False
        else False
      | _ => False
    | _, _ => False
  | _, _ => False

/-- clear(s). -/
def CLR (H : Hp) (te : TE) (p : Option Addr) (len : Nat) (F : Hp → Prop) : Prop :=
  match p with
  | none => F H
  | some ⟨b, o, none⟩ => (∀ i, i < (rep len te.zc).length → (rd H b (o + i)).isSome = true) ∧ (∀ v ∈ rep len te.zc, isCell v = true) ∧ F (wrN H b o (rep len te.zc))
  | _ => False

def bClr (T : Tab) (ts : List TypeId) (args : List Value) (H : Hp) (F : Value → Hp → Prop) : Prop :=
  match ts, args with
  | t :: _, .slice p len _ :: _ => match T t with
    | some te => match te.d with
      | .sl e => match T e with
        | some te' => bif noTup te' then CLR H te' p len fun H' => F (.tuple #[]) H' else False
        | none => False
      | _ => False
    | none => False
  | _, _ => False

def lift1 (T : Tab) (t : TypeId) (v : Value) (F : Value → Prop) : Prop :=
  match T t with
  | none => False
  | some te => match te.d with
    | .sc | .sl _ => match te.sh with
      | [s] => lift s v F
      | _ => False
    | .st _ => aggV v fun cs => lifts te.sh cs fun vs => F (.agg ⟨vs⟩)
    | _ => False

def liftRes (T : Tab) (t : TypeId) (v : Value) (F : Value → Prop) : Prop :=
  match T t with
  | none => False
  | some te =>
    match te.d with
    | .sc | .sl _ => match te.sh with
      | [s] => lift s v F
      | _ => False
    | .st _ => aggV v fun cs => lifts te.sh cs fun vs => F (.agg ⟨vs⟩)
    | .ar _ _ => False
    | .tup ts => tupV v fun vs => match ts with
      | [] => d0 vs (F (.tuple ⟨[]⟩))
      | [t, u] => d2 vs fun a b => lift1 T t a fun x => lift1 T u b fun y => F (.tuple ⟨[x, y]⟩)
      | [t, u, p] => d3 vs fun a b c => lift1 T t a fun x => lift1 T u b fun y => lift1 T p c fun z => F (.tuple ⟨[x, y, z]⟩)
      | [t, u, p, q] => d4 vs fun a b c d => lift1 T t a fun x => lift1 T u b fun y => lift1 T p c fun z => lift1 T q d fun z' => F (.tuple ⟨[x, y, z, z']⟩)
      | _ => False

/-- Another builtin: as the model does it. -/
def BLT [Sp] (P : Program) (b : Builtin) (ts : List TypeId) (ty : TypeId) (args : List Value) (H : Hp) (F : Value → Hp → Prop) : Prop :=
  ∀ w, hp w = H → ∃ v w', (∀ cs, (builtin b ⟨ts⟩ ty cs ⟨args⟩).run P w = .ok (.value v) w') ∧ Ge 0 w w' ∧ F v (hp w')

def vcBuiltin [Sp] (P : Program) (T : Tab) (b : Builtin) (ts : List TypeId) (ty : TypeId) (args : List Value) (H : Hp) (F : Value → Hp → Prop) : Prop :=
  match b with
  | .len => bLen T ts args fun v => F v H
  | .cap => bCap T ts args fun v => F v H
  | .min => bFold min args fun v => F v H
  | .max => bFold max args fun v => F v H
  | .append => bApp T ts args H F
  | .clear => bClr T ts args H F
  | .unsafeString => BLT P .unsafeString ts ty args H fun v H' => liftRes T ty v fun v' => F v' H'
  | .copy => BLT P .copy ts ty args H fun v H' => liftRes T ty v fun v' => F v' H'
  | .unsafeSliceData => BLT P .unsafeSliceData ts ty args H fun v H' => liftRes T ty v fun v' => F v' H'
  | _ => False

/-- Fill places of a row. -/
def fillL (place : Nat → Option (Nat × Nat)) (cells : List Value) : List (Nat × Value) → Option (List Value)
  | [] => some cells
  | (i, v) :: rest =>
    match place i with
    | none => none
    | some (off, size) =>
      bif Nat.beq (cellsL v).length size && Nat.ble (off + size) cells.length then fillL place (putAt cells off (cellsL v)) rest else none
where
  putAt : List Value → Nat → List Value → List Value
    | cs, _, [] => cs
    | cs, o, v :: vs => putAt (cs.set o v) (o + 1) vs

def sizesOf (T : Tab) : List (Nat × TypeId) → Option (List (Nat × Nat))
  | [] => some []
  | (o, t) :: r => match T t, sizesOf T r with
    | some te, some l => some ((o, te.size) :: l)
    | _, _ => none

def evParts (fr : Fr) : List (Nat × Operand) → Option (List (Nat × Value))
  | [] => some []
  | (i, x) :: r => match ev fr x, evParts fr r with
    | some v, some l => some ((i, v) :: l)
    | _, _ => none

def vcOp [Sp] (P : Program) (T : Tab) (yl : Option YG) (o : Oper) (fr : Fr) (H : Hp) (al : Al) (K : AV → Hp → Al → Prop) : Prop :=
  match o.op with
  | .move x | .assign x => match evA fr x with
    | some v => K v H al
    | none => False
  | .pick c a b => match ev fr c with
    | some (.bool t) => bc t (match evA fr a with | some v => K v H al | none => False) (match evA fr b with | some v => K v H al | none => False)
    | _ => False
  | .nilCheck x => match ev fr x with
    | some (.pointer p) => NIL p fun b o => K (.v (.pointer (some ⟨b, o, none⟩))) H al
    | _ => False
  | .fieldAddr s x f => match ev fr x, T s with
    | some (.pointer (some ⟨b, o, none⟩)), some te => match te.d with
      | .st fs => match fs[f]? with
        | some (off, ft) => match T ft with
          | some te' => bif Nat.beq te'.size 0 then False else K (.v (.pointer (some ⟨b, o + off, none⟩))) H al
          | none => False
        | none => False
      | _ => False
    | _, _ => False
  | .indexAddr t x i => match ev fr i, ev fr x, T t with
    | some (.int _ iv), some xv, some te => match te.d, xv with
      | .ar n e, .pointer (some ⟨b, o, none⟩) => match T e with
        | some te' => IDX iv n fun k => K (.v (.pointer (some ⟨b, o + mulS k te'.size, none⟩))) H al
        | none => False
      | .sl e, .slice p len _ => match T e with
        | some te' => IDX iv len fun k => NIL p fun b o => K (.v (.pointer (some ⟨b, o + mulS k te'.size, none⟩))) H al
        | none => False
      | _, _ => False
    | _, _, _ => False
  | .load t x => match ev fr x, T t with
    | some (.pointer (some ⟨b, o, none⟩)), some te => match te.d with
      | .sc | .sl _ => match te.sh with
        | [s] => ldSh s (rd H b o) fun v => K (.v v) H al
        | _ => False
      | .st _ => ldAgg H b o te.sh fun vs => K (.v (.agg ⟨vs⟩)) H al
      | _ => False
    | _, _ => False
  | .store t x v => match ev fr x, ev fr v, T t with
    | some (.pointer (some ⟨b, o, none⟩)), some v, some te => match te.d with
      | .sc | .sl _ => bif isCell v then ST H b o v fun H' => K (.v undef) H' al else False
      | .st _ => match v with
        | .agg cs => bif Nat.beq cs.toList.length te.size && cs.toList.all isCell then stAll b o cs.toList H fun H' => K (.v undef) H' al else False
        | _ => False
      | _ => False
    | _, _, _ => False
  | .alloc t => match T t with
    | some te => match te.d with
      | .tup _ => False
      | _ => NEW H (mkl te.zc te.tl) fun b H' => K (.v (.pointer (some ⟨b, 0, none⟩))) H' al
    | none => False
  | .box t v => match evA fr v with
    | some (.v v) => bif (cellsL v).all notT then NEW H (mkl (cellsL v) (mkT t)) fun b H' => K (.v (.pointer (some ⟨b, 0, none⟩))) H' al else False
    | some .Y => match yl with
      | some G => NEW H (mkl [yv G.L] (mkT t)) fun b H' => K (.v (.pointer (some ⟨b, 0, none⟩))) H' al
      | none => False
    | none => False
  | .build t parts => match T t, evParts fr parts.toList with
    | some te, some ps => match te.d with
      | .st fs => match sizesOf T fs with
        | some pl => match fillL (fun i => pl[i]?) te.zc ps with
          | some cs => K (.v (.agg ⟨cs⟩)) H al
          | none => False
        | none => False
      | .ar _ e => match T e with
        | some te' => match fillL (fun i => some (i * te'.size, te'.size)) te.zc ps with
          | some cs => K (.v (.agg ⟨cs⟩)) H al
          | none => False
        | none => False
      | _ => False
    | _, _ => False
  | .buildSlice t len parts => match T t, evParts fr parts.toList with
    | some te, some ps => match te.d with
      | .sl e => match T e with
        | some te' => bif noTup te' && Nat.ble (len * te'.size) 16777216 then
            match fillL (fun i => some (i * te'.size, te'.size)) (rep len te'.zc) ps with
            | some cs => bif cs.all notT then NEW H (mkl cs te'.tl) fun b H' => K (.v (.slice (some ⟨b, 0, none⟩) len len)) H' al else False
            | none => False
          else False
        | none => False
      | _ => False
    | _, _ => False
  | .makeSlice t l c => match ev fr l, ev fr c, T t with
    | some (.int _ lv), some (.int _ cv), some te => match te.d with
      | .sl e => match T e with
        | some te' => ∃ n m : Nat, lv = (n : Int) ∧ cv = (m : Int) ∧ n ≤ m ∧ te'.bytes * m ≤ 281474976710656 ∧ m < 9223372036854775808 ∧
            (bif noTup te' then NEW H (mkl (rep m te'.zc) te'.tl) fun b H' => K (.v (.slice (some ⟨b, 0, none⟩) n m)) H' al else False)
        | none => False
      | _ => False
    | _, _, _ => False
  | .binOp op xt x y _ => match ev fr x, ev fr y with
    | some a, some b => vcBin P T op xt a b fun v => K (.v v) H al
    | _, _ => False
  | .unOp op _ x => match ev fr x with
    | some a => vcUn op a fun v => K (.v v) H al
    | none => False
  | .convert src dst x => match ev fr x with
    | some a => vcConv P T src dst a H fun v H' => K (.v v) H' al
    | none => False
  | .makeFunc fn first cap => match evs fr first.toList, evs fr cap.toList with
    | some f, some c => K (.v (.func fn ⟨f⟩ ⟨c⟩)) H al
    | _, _ => False
  | .slice t x lo hi mx => match ev fr x with
    | some v => vcSlice T t v (opI fr lo) (opI fr hi) (opI fr mx) fun v => K (.v v) H al
    | none => False
  | .field t x f => match ev fr x, T t with
    | some (.agg cs), some te => match te.d with
      | .st fs => match fs[f]? with
        | some (off, ft) => match T ft with
          | some te' => match partL te' cs.toList off with
            | some v => K (.v v) H al
            | none => False
          | none => False
        | none => False
      | _ => False
    | _, _ => False
  | .index t x i => match ev fr x, ev fr i with
    | some (.string s), some (.int _ iv) => bif isSh T t .str then IDX iv s.size fun k => K (.v (.int .u8 (s.data.toList.getD k 0).toNat)) H al else False
    | _, _ => False
  | .extract x i => match ev fr x with
    | some (.tuple vs) => match vs.toList[i]? with
      | some v => K (.v v) H al
      | none => False
    | _ => False
  | .call c => match c.callee with
    | .builtin b => match evs fr c.args.toList with
      | some args => vcBuiltin P T b c.argTypes.toList o.type args H fun v H' => K (.v v) H' al
      | none => False
    | .value f => match evA fr f, evs fr c.args.toList with
      | some (.v g), some args => match yl, al with
        | some G, .on => bif isF f then CallV P g args H fun v H' => liftRes T o.type v fun v' => K (.v v') H' .on
          else (g = yv G.L ∧ G.g args H fun al' H' => match al' with
            | .on => K (.v (.bool true)) H' .on
            | .off j up => K (.v (.bool false)) H' (.off j up)) ∨ CallV P g args H fun v H' => liftRes T o.type v fun v' => K (.v v') H' .on
        | _, _ => CallV P g args H fun v H' => liftRes T o.type v fun v' => K (.v v') H' al
      | some .Y, some args => match yl, al with
        | some G, .on => G.g args H fun al' H' => match al' with
          | .on => K (.v (.bool true)) H' .on
          | .off j up => K (.v (.bool false)) H' (.off j up)
        | _, _ => False
      | _, _ => False
    | _ => False
  | _ => False

def setD (n : Nat) (d : Option Tmp) (fr : Fr) (x : AV) (K : Fr → Prop) : Prop :=
  match d with
  | none => K fr
  | some d => bif Nat.blt d n then K ((d, x) :: fr) else False

def vcOps [Sp] (P : Program) (T : Tab) (yl : Option YG) (n : Nat) (ops : Array Oper) (K : Fr → Hp → Al → Prop) : List Nat → Fr → Hp → Al → Prop
  | [], fr, H, al => K fr H al
  | i :: rest, fr, H, al =>
    match ops[i]? with
    | none => False
    | some o =>
      match o.guard with
      | none => vcOp P T yl o fr H al fun x H' al' => setD n o.dst fr x fun fr' => vcOps P T yl n ops K rest fr' H' al'
      | some (j, want) =>
        match (ops[j]?).bind (·.dst) with
        | none => False
        | some s => match fr.get s with
          | some (.v (.bool b)) => bc b
              (match want with
               | true => vcOp P T yl o ((s, .v (.bool true)) :: fr) H al fun x H' al' => setD n o.dst ((s, .v (.bool true)) :: fr) x fun fr' => vcOps P T yl n ops K rest fr' H' al'
               | false => setD n o.dst ((s, .v (.bool true)) :: fr) (.v undef) fun fr' => vcOps P T yl n ops K rest fr' H al)
              (match want with
               | true => setD n o.dst ((s, .v (.bool false)) :: fr) (.v undef) fun fr' => vcOps P T yl n ops K rest fr' H al
               | false => vcOp P T yl o ((s, .v (.bool false)) :: fr) H al fun x H' al' => setD n o.dst ((s, .v (.bool false)) :: fr) x fun fr' => vcOps P T yl n ops K rest fr' H' al')
          | some (.v (.tuple _)) => setD n o.dst fr (.v undef) fun fr' => vcOps P T yl n ops K rest fr' H al
          | _ => False

/-! ### Code -/
def opsMods (ops : List Oper) : List Nat := ops.filterMap (·.dst)

def mods : Code → List Nat
  | .region _ ops _ => opsMods ops.toList
  | .seq a b => mods a ++ mods b
  | .cond _ a b => mods a ++ mods b
  | .block _ c | .loop c | .scope c => mods c
  | .rangeFunc .. => []
  | _ => []

/-- A variable of a loop: one cell, or a struct by value. -/
inductive VS where
  | one (s : Sh)
  | agg (l : List Sh)

def shsOf : List (Nat × VS) → List Sh
  | [] => []
  | (_, .one s) :: r => s :: shsOf r
  | (_, .agg l) :: r => l ++ shsOf r

def flatV : List (Nat × VS) → List Value → Option (List Value)
  | [], [] => some []
  | (_, .one _) :: r, v :: vs => match flatV r vs with
    | some fs => some (v :: fs)
    | none => none
  | (_, .agg l) :: r, .agg cs :: vs => bif Nat.beq cs.toList.length l.length then
      match flatV r vs with
      | some fs => some (cs.toList ++ fs)
      | none => none
    else none
  | _, _ => none

def unflat : List (Nat × VS) → List Value → List Value
  | [], _ => []
  | (_, .one _) :: r, v :: fs => v :: unflat r fs
  | (_, .one _) :: _, [] => []
  | (_, .agg l) :: r, fs => .agg ⟨fs.take l.length⟩ :: unflat r (fs.drop l.length)

theorem unflat_flat : ∀ {l : List (Nat × VS)} {vs fs : List Value}, flatV l vs = some fs → unflat l fs = vs
  | [], [], fs, h => by simp only [flatV, Option.some.injEq] at h; subst h; rfl
  | [], _ :: _, fs, h => by simp [flatV] at h
  | (_, .one _) :: r, [], fs, h => by simp [flatV] at h
  | (_, .one _) :: r, v :: vs, fs, h => by
    simp only [flatV] at h
    split at h
    · rename_i gs hg
      simp only [Option.some.injEq] at h
      subst h
      simp only [unflat]
      rw [unflat_flat hg]
    · cases h
  | (_, .agg l) :: r, [], fs, h => by simp [flatV] at h
  | (_, .agg l) :: r, v :: vs, fs, h => by
    cases v <;> simp only [flatV, reduceCtorEq] at h
    rename_i cs
    cases hb : Nat.beq cs.toList.length l.length with
    | false => rw [hb] at h; cases h
    | true =>
      rw [hb] at h
      simp only [cond_true] at h
      have hl := Nat.eq_of_beq_eq_true hb
      split at h
      · rename_i gs hg
        simp only [Option.some.injEq] at h
        subst h
        simp only [unflat]
        rw [← hl, List.take_left, List.drop_left, unflat_flat hg]
      · cases h

def eqE : Exit → Exit → Bool
  | .exit a, .exit b => Nat.beq a b
  | .ret, .ret => true
  | _, _ => false

def addE (l : List Exit) (e : Exit) : List Exit := bif l.any (eqE e) then l else l ++ [e]

/-- The jumps that leave a piece of code. -/
def jmps : Code → List Exit
  | .exit id => [.exit id]
  | .ret => [.ret]
  | .seq a b => (jmps b).foldl addE (jmps a)
  | .cond _ a b => (jmps b).foldl addE (jmps a)
  | .block id c => (jmps c).filter fun e => !eqE e (.exit id)
  | .loop c | .scope c => jmps c
  | .rangeFunc _ _ _ c => jmps c
  | _ => []

def idxE : List Exit → Exit → Option Nat
  | [], _ => none
  | x :: r, e => bif eqE x e then some 0 else match idxE r e with
    | some j => some (j + 1)
    | none => none

/-- By which jump a loop was left. -/
def selJ (js : List Exit) (j : Nat) (F : Exit → Prop) : Prop :=
  match js with
  | [] => True
  | [e] => F e
  | e :: r => bif Nat.beq j 0 then F e else selJ r (j - 1) F

theorem eqE_spec {x e : Exit} (h : eqE x e = true) : x = e ∧ isJump e = true := by
  cases x <;> cases e <;> simp [eqE, isJump] at h ⊢
  exact h

theorem idxE_spec : ∀ {l : List Exit} {e : Exit} {j : Nat}, idxE l e = some j → l[j]? = some e ∧ isJump e = true
  | [], e, j, h => by simp [idxE] at h
  | x :: r, e, j, h => by
    simp only [idxE] at h
    cases hb : eqE x e with
    | true =>
      rw [hb] at h
      simp only [cond_true, Option.some.injEq] at h
      subst h
      obtain ⟨h1, h2⟩ := eqE_spec hb
      exact ⟨by simp [h1], h2⟩
    | false =>
      rw [hb] at h
      simp only [cond_false] at h
      split at h
      · rename_i i hi
        simp only [Option.some.injEq] at h
        subst h
        obtain ⟨h1, h2⟩ := idxE_spec hi
        exact ⟨by simpa using h1, h2⟩
      · cases h

theorem selJ_spec : ∀ {js : List Exit} {j : Nat} {F : Exit → Prop} {e : Exit}, js[j]? = some e → selJ js j F → F e
  | [], j, F, e, h, _ => by simp at h
  | [x], j, F, e, h, hs => by
    cases j with
    | zero => simp at h; subst h; exact hs
    | succ j => simp at h
  | x :: z :: r, j, F, e, h, hs => by
    cases j with
    | zero => simp at h; subst h; exact hs
    | succ j =>
      have hs' : selJ (z :: r) (j + 1 - 1) F := hs
      exact selJ_spec (by simpa using h) hs'

/-- Loop variables: one cell's worth, or a struct's. -/
def liftW (s : VS) (v : Value) (F : Value → Prop) : Prop :=
  match s with
  | .one s => lift s v F
  | .agg l => aggV v fun cs => lifts l cs fun vs => F (.agg ⟨vs⟩)
def liftWs (l : List VS) (vs : List Value) (F : List Value → Prop) : Prop :=
  match l with
  | [] => d0 vs (F [])
  | [s] => d1 vs fun a => liftW s a fun x => F [x]
  | [s, t] => d2 vs fun a b => liftW s a fun x => liftW t b fun y => F [x, y]
  | [s, t, u] => d3 vs fun a b c => liftW s a fun x => liftW t b fun y => liftW u c fun z => F [x, y, z]
  | _ => False

structure Ann where
  loops : List (Nat × List (Nat × VS))
  pars : List (Nat × VS)

def lookN {α : Type} : List (Nat × α) → Nat → Option α
  | [], _ => none
  | (j, x) :: r, i => bif Nat.beq j i then some x else lookN r i

def parSh (A : Ann) : List Nat → Option (List VS)
  | [] => some []
  | i :: r => match lookN A.pars i, parSh A r with
    | some s, some l => some (s :: l)
    | _, _ => none

def quietOp : Op → Bool
  | .move _ | .assign _ | .pick .. | .nilCheck _ | .fieldAddr .. | .indexAddr .. | .load .. | .binOp .. | .unOp .. | .slice .. | .field .. | .index .. | .extract .. | .makeFunc .. => true
  | .call { callee := .builtin .len, .. } | .call { callee := .builtin .cap, .. } | .call { callee := .builtin .min, .. } | .call { callee := .builtin .max, .. } => true
  | _ => false

end Go.V
