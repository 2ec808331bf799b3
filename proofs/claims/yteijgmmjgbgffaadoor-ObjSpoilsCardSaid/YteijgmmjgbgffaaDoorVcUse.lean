/- The reckoner in use: tables of types, laws for those who prove contracts. -/
import Derived.Test.YteijgmmjgbgffaaDoorVcFun
namespace Go.V
set_option linter.unusedSectionVars false

def bs (l : List UInt8) : ByteArray := ⟨⟨l⟩⟩

/-- What becomes of a loop over a function. -/
def alC (al : Al) (A : Prop) (B : Nat → Al → Prop) : Prop :=
  match al with
  | .on => A
  | .off j up => B j up

def zeroL (i : TypeInfo) : List Value :=
  match i.zero with
  | some (.agg cs) => cs.toList
  | _ => []

def descOf (i : TypeInfo) : TypeDesc := i.desc

def structOf (i : TypeInfo) : Array Field :=
  match i.desc with
  | .struct fs => fs
  | _ => #[]

theorem TSpec.sc [Sp] {P : Program} {t : TypeId} {i : TypeInfo} {d : TypeDesc} {s : Sh} {z : Value} {b : Nat} (h1 : P.info? t = some i) (h2 : P.underlying t = some d) (h3 : i.size = 1) (h4 : i.bytes = b) (h5 : shD s d = true)
    (h6 : i.zero = some z) (h7 : z.oneCell' = true) {tl : List Value} (h8 : tl = Go.V.mkT t) (h9 : notT z = true) : TSpec P t ⟨.sc, 1, b, [s], [z], tl⟩ :=
  ⟨h8, by simp [h9], i, d, h1, h2, h3, h4, rfl, s, z, rfl, h5, rfl, h6, h7⟩
theorem TSpec.sl [Sp] {P : Program} {t e : TypeId} {i : TypeInfo} {b : Nat} (h1 : P.info? t = some i) (h2 : P.underlying t = some (.slice e)) (h3 : i.size = 1) (h4 : i.bytes = b) (h6 : i.zero = some (.slice none 0 0)) {tl : List Value} (h8 : tl = Go.V.mkT t) :
    TSpec P t ⟨.sl e, 1, b, [.slice], [.slice none 0 0], tl⟩ :=
  ⟨h8, rfl, i, _, h1, h2, h3, h4, rfl, rfl, rfl, rfl, h6⟩
theorem TSpec.st [Sp] {P : Program} {t : TypeId} {i : TypeInfo} {b n : Nat} {fs : List (Nat × TypeId)} {fields : Array Field} {l : List Sh} {zc : List Value} (h1 : P.info? t = some i) (h2 : P.underlying t = some (.struct fields)) (h3 : i.size = n) (h4 : i.bytes = b)
    (h5 : i.zero = some (.agg ⟨zc⟩)) (h6 : zc.length = n) (h7 : l.length = n) (h8 : fields.toList.map (fun f => (f.offset, f.type)) = fs) (h9 : P.stoodInHeld t = false) (h10 : P.eqGuardType P.depth t = false)
    (h11 : (fields.toList.all fun f => f.name != "_") = true) {tl : List Value} (h12 : tl = Go.V.mkT t) (h13 : zc.all notT = true) : TSpec P t ⟨.st fs, n, b, l, zc, tl⟩ :=
  ⟨h12, h13, i, _, h1, h2, h3, h4, h5, h6, h7, fields, rfl, h8, h9, h10, fun f hf e => by have := List.all_eq_true.1 h11 f hf; rw [e] at this; exact absurd this (by decide)⟩
theorem TSpec.ar [Sp] {P : Program} {t e : TypeId} {i : TypeInfo} {b n m : Nat} {zc : List Value} (h1 : P.info? t = some i) (h2 : P.underlying t = some (.array m e)) (h3 : i.size = n) (h4 : i.bytes = b)
    (h5 : i.zero = some (.agg ⟨zc⟩)) {tl : List Value} (h6 : tl = Go.V.mkT t) (h7 : zc.all notT = true) : TSpec P t ⟨.ar m e, n, b, [], zc, tl⟩ :=
  ⟨h6, h7, i, _, h1, h2, h3, h4, h5, rfl⟩
theorem TSpec.tup [Sp] {P : Program} {t : TypeId} {i : TypeInfo} {b n : Nat} {ts : List TypeId} (h1 : P.info? t = some i) (h2 : P.underlying t = some (.tuple ts.toArray)) (h3 : i.size = n) (h4 : i.bytes = b) {tl : List Value} (h5 : tl = Go.V.mkT t) : TSpec P t ⟨.tup ts, n, b, [], [], tl⟩ :=
  ⟨h5, rfl, i, _, h1, h2, h3, h4, trivial⟩

end Go.V
