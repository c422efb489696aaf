/- ShowFull's walk, over what the listed variables give. -/
import Derived.Test.YtffkaphbgfdpaaaGreatDoorFullW
import Derived.Test.YtffkaphbgfdpaaaGreatDoorCard
namespace Go.Proofs.YtffkaphbgfdpaaaGreatDoor
open Go.RowKit Go.Shelf Go.Deep T
theorem full_go (A : Option Addr) (c : Nat) (ns : List Node) (m : Int) (w : World) (hA : Ns w A ns) (hok : NodesOk ns) (hnA : A = none → c = 0) (hcA : ns.length ≤ c) (hrA : c ≤ 1954687338211) (hG : Given m w) :
    Calls Tryz.prog 5 #[.slice A ns.length c] w fun e w' => e = .returned (.bool true) ∧ Below w.heap.size w w' := full_law A c ns w hA hok hnA hcA hrA hG.tab hG.deb
end Go.Proofs.YtffkaphbgfdpaaaGreatDoor
