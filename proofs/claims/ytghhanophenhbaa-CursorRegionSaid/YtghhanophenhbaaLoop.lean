/- Ahead of a loop: the world at hand under a new name. -/
import Derived.Test.YtghhanophenhbaaMix
namespace Go.Proofs.Ytghhanophenhbaa
open Go.RowKit

/-- The world at hand under a new name, of which only this is known: that it has grown. -/
theorem wp_grown {P : Program} {c : Code} {Q : Exit → Act → World → Prop} {a : Act} {w : World} (h : ∀ w', Gr w w' → c.wp P Q a w') : c.wp P Q a w := h w (Gr.refl w)

end Go.Proofs.Ytghhanophenhbaa
