import Derived.Test.YthpggdlhoegndaaDoorCode
import Derived.KernelRfl
set_option linter.all false
namespace Go.Proofs.YthpggdlhoegndaaDoor.LM
open Go
def cfD : Cfg := ⟨fun f => lookF f codes, impOf⟩
theorem tabD : Tab cfD := ⟨fun _ _ h => h, fun _ => rfl⟩
end Go.Proofs.YthpggdlhoegndaaDoor.LM
