/-
  Pieces beside one another: two neighbours change places. Over any program.
-/
import Derived.Test.YtecfenoidcolfaaSep
namespace Go.Proofs.Ytecfenoidcolfaa
set_option linter.unusedVariables false
open Go.RowKit
theorem On.sw0 {w0 w : World} {A0 A1 R : Ast} (h : On w0 w (sep A0 (sep A1 R))) : On w0 w (sep A1 (sep A0 R)) := h.mono (fun _ h => sep_left h)
theorem On.sw1 {w0 w : World} {A0 A1 A2 R : Ast} (h : On w0 w (sep A0 (sep A1 (sep A2 R)))) : On w0 w (sep A0 (sep A2 (sep A1 R))) := h.mono (fun _ h => sep_monoR h fun _ h => sep_left h)
theorem On.sw2 {w0 w : World} {A0 A1 A2 A3 R : Ast} (h : On w0 w (sep A0 (sep A1 (sep A2 (sep A3 R))))) : On w0 w (sep A0 (sep A1 (sep A3 (sep A2 R)))) := h.mono (fun _ h => sep_monoR h fun _ h => sep_monoR h fun _ h => sep_left h)
theorem On.sw3 {w0 w : World} {A0 A1 A2 A3 A4 R : Ast} (h : On w0 w (sep A0 (sep A1 (sep A2 (sep A3 (sep A4 R)))))) : On w0 w (sep A0 (sep A1 (sep A2 (sep A4 (sep A3 R))))) := h.mono (fun _ h => sep_monoR h fun _ h => sep_monoR h fun _ h => sep_monoR h fun _ h => sep_left h)
theorem On.sw4 {w0 w : World} {A0 A1 A2 A3 A4 A5 R : Ast} (h : On w0 w (sep A0 (sep A1 (sep A2 (sep A3 (sep A4 (sep A5 R))))))) : On w0 w (sep A0 (sep A1 (sep A2 (sep A3 (sep A5 (sep A4 R)))))) := h.mono (fun _ h => sep_monoR h fun _ h => sep_monoR h fun _ h => sep_monoR h fun _ h => sep_monoR h fun _ h => sep_left h)
theorem On.sw5 {w0 w : World} {A0 A1 A2 A3 A4 A5 A6 R : Ast} (h : On w0 w (sep A0 (sep A1 (sep A2 (sep A3 (sep A4 (sep A5 (sep A6 R)))))))) : On w0 w (sep A0 (sep A1 (sep A2 (sep A3 (sep A4 (sep A6 (sep A5 R))))))) := h.mono (fun _ h => sep_monoR h fun _ h => sep_monoR h fun _ h => sep_monoR h fun _ h => sep_monoR h fun _ h => sep_monoR h fun _ h => sep_left h)
theorem On.sw6 {w0 w : World} {A0 A1 A2 A3 A4 A5 A6 A7 R : Ast} (h : On w0 w (sep A0 (sep A1 (sep A2 (sep A3 (sep A4 (sep A5 (sep A6 (sep A7 R))))))))) : On w0 w (sep A0 (sep A1 (sep A2 (sep A3 (sep A4 (sep A5 (sep A7 (sep A6 R)))))))) := h.mono (fun _ h => sep_monoR h fun _ h => sep_monoR h fun _ h => sep_monoR h fun _ h => sep_monoR h fun _ h => sep_monoR h fun _ h => sep_monoR h fun _ h => sep_left h)
theorem On.sw7 {w0 w : World} {A0 A1 A2 A3 A4 A5 A6 A7 A8 R : Ast} (h : On w0 w (sep A0 (sep A1 (sep A2 (sep A3 (sep A4 (sep A5 (sep A6 (sep A7 (sep A8 R)))))))))) : On w0 w (sep A0 (sep A1 (sep A2 (sep A3 (sep A4 (sep A5 (sep A6 (sep A8 (sep A7 R))))))))) := h.mono (fun _ h => sep_monoR h fun _ h => sep_monoR h fun _ h => sep_monoR h fun _ h => sep_monoR h fun _ h => sep_monoR h fun _ h => sep_monoR h fun _ h => sep_monoR h fun _ h => sep_left h)
theorem On.sw8 {w0 w : World} {A0 A1 A2 A3 A4 A5 A6 A7 A8 A9 R : Ast} (h : On w0 w (sep A0 (sep A1 (sep A2 (sep A3 (sep A4 (sep A5 (sep A6 (sep A7 (sep A8 (sep A9 R))))))))))) : On w0 w (sep A0 (sep A1 (sep A2 (sep A3 (sep A4 (sep A5 (sep A6 (sep A7 (sep A9 (sep A8 R)))))))))) := h.mono (fun _ h => sep_monoR h fun _ h => sep_monoR h fun _ h => sep_monoR h fun _ h => sep_monoR h fun _ h => sep_monoR h fun _ h => sep_monoR h fun _ h => sep_monoR h fun _ h => sep_monoR h fun _ h => sep_left h)
end Go.Proofs.Ytecfenoidcolfaa
