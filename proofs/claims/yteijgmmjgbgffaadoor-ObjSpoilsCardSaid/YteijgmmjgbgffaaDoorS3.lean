/- Contracts. -/
import Derived.Test.YteijgmmjgbgffaaDoorS2
import Derived.Test.YteijgmmjgbgffaaDoorVcRows
namespace Go.Proofs.YteijgmmjgbgffaaDoor
open Go.V
/-! ### Lines -/
theorem linesA_len (acc l : BL) : (linesA acc l).length ≤ l.length + (if acc = [] then 0 else 1) := by
  induction l generalizing acc with
  | nil => unfold linesA; split <;> simp
  | cons b l ih =>
    unfold linesA
    split
    · have := ih []
      simp at this ⊢
      omega
    · have := ih (acc ++ [b])
      simp at this ⊢
      omega
theorem lines_len (l : BL) : (lines l).length ≤ l.length := by have := linesA_len [] l; simpa [lines] using this
def sv (l : BL) : Value := .string (mkB l)

theorem sl_map {α β : Type} {f : α → Value} {g : β → α} {H : Hp} {p : Option Addr} {l c' : Nat} {xs : List β} : Sl f H p l c' (xs.map g) ↔ Sl (fun x => f (g x)) H p l c' xs := by
  unfold Sl
  simp
end Go.Proofs.YteijgmmjgbgffaaDoor
