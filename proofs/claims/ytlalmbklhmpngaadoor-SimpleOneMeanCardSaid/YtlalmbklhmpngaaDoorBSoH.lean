/-
  The contracts of the reference's simpleBehind and SimpleForm.
The contract of the reference's SimpleForm.
The contract of the reference's SimpleForm.
The contract of the reference's SimpleForm.
-/
import Derived.Test.YtlalmbklhmpngaaDoorBSoF
import Derived.Test.YtlalmbklhmpngaaDoorSoI
import Derived.WalkKit
import Derived.WalkSpells
import Derived.WalkLawsBesides
import Derived.Test.YtlalmbklhmpngaaDoorSoM
namespace Go.Proofs.YtlalmbklhmpngaaDoor
open Go.RowKit

end Go.Proofs.YtlalmbklhmpngaaDoor
namespace Go.Proofs.YtlalmbklhmpngaaDoor
open Go.RowKit

-- it does not reckon, or is a copy
end Go.Proofs.YtlalmbklhmpngaaDoor
namespace Go.Proofs.YtlalmbklhmpngaaDoor
open Go.RowKit

-- a number and a register
end Go.Proofs.YtlalmbklhmpngaaDoor
namespace Go.Proofs.YtlalmbklhmpngaaDoor
open Go.RowKit

end Go.Proofs.YtlalmbklhmpngaaDoor
