/- All numbers of the package api are as the document names them: the closed call returns true. No conditions. -/
import Derived.Test.YtjimbbeaoliofaaPTopNamesx1
namespace Go.Proofs.Ytjimbbeaoliofaa.Pure
open Go.RowKit Go.Proofs.Ytjimbbeaoliofaa.PTopNames Go.Proofs.YtjimbbeaoliofaaW.PrintWords Go.Proofs.YtjimbbeaoliofaaW.PrintLast

theorem TopNames : ferruletop_TopNames.Pure := by
  exact ⟨20, by decide +kernel⟩

end Go.Proofs.Ytjimbbeaoliofaa.Pure
