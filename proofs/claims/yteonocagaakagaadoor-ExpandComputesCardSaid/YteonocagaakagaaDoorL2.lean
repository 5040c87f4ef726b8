/- Plain laws: what comes out by evaluation. No condition. -/
import Derived.Test.YteonocagaakagaaDoorL1
import Derived.KernelRfl
set_option maxRecDepth 100000
namespace Go.AM
open Go

def full : Arr5 api_Range := ⟨⟨0, 4294967295⟩, ⟨0, 4294967295⟩, ⟨0, 255⟩, ⟨0, 65535⟩, ⟨0, 65535⟩⟩
theorem Full_eq : F_nsgref3_Full = some full := by kernel_rfl
theorem sane7_eq : F_nsglaw7_sane = some true := by kernel_rfl
end Go.AM
