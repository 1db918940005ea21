/- A row that grows by one, told by its list. -/
import Derived.Test.YtcfllgdfhfcicaaDoorQ3
import Derived.Test.YtcfllgdfhfcicaaDoorQ2
set_option linter.unusedSimpArgs false
set_option linter.unusedVariables false
namespace Go.Proofs.YtcfllgdfhfcicaaDoor
open Go Go.Sx Go.RowKit
set_option maxRecDepth 100000

theorem rowL_snoc {α : Type} (enc : α → List AV) (d : α) {l l' : List α} {x : α} (h : l ++ [x] = l') {ids : List Nat} {e : TypeId} {sz ep : Nat} {g : Nat → List AV} (hg : g 0 = enc x) : SoLe (.row ids e sz ep (l.length + 1) (appF l.length (encL enc d l) 1 g)) (.row ids e sz ep l'.length (encL enc d l')) := by
  subst h; exact ⟨⟨rfl, rfl, rfl⟩, rfl, by rw [List.length_append]; rfl, le_encSnoc hg⟩

theorem ownL_snoc {α : Type} {l l' : List α} {x : α} (h : l ++ [x] = l') (r : Nat) : Le (.own r 0 0 (l.length + 1)) (.own r 0 0 l'.length) := by
  subst h; exact Le.of_eq (by rw [List.length_append]; rfl)

theorem turnR_refl {E : Env} {s : ASt} : TurnR E s s := fun rd mp _ _ h1 h2 => ⟨rd, mp, h1, h2⟩

end Go.Proofs.YtcfllgdfhfcicaaDoor
