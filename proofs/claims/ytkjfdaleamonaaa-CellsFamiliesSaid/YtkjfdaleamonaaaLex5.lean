/- One operation of a region after the other (the law wp_region_inv), by plain lemmas. -/
import Derived.Test.YtkjfdaleamonaaaLex4
namespace Go.Proofs.Ytkjfdaleamonaaa
open Go
variable {P : Program} {ops : Array Oper} {G : World → World → Prop} {w0 : World} {R : Nat → Value → World → Prop} {K : Act → World → Prop}
theorem inv_cons {o : Oper} {r : List Oper} {vs : List Value} {a : Act}
    (h1 : ∀ w, G w0 w → (∀ j, j < vs.length → needs o j = true → R j (vs.getD j undef) w) → wpList P ops (Leaves a o.dst fun v w' => G w w' ∧ R vs.length v w') [o] a w)
    (h2 : ∀ v, invList P ops G w0 R K r (vs ++ [v]) (a.put o.dst v)) : invList P ops G w0 R K (o :: r) vs a := ⟨h1, h2⟩
theorem inv_done {vs : List Value} {a : Act} (h : ∀ w, G w0 w → (∀ j, j < vs.length → R j (vs.getD j undef) w) → K a w) : invList P ops G w0 R K [] vs a := h
end Go.Proofs.Ytkjfdaleamonaaa
