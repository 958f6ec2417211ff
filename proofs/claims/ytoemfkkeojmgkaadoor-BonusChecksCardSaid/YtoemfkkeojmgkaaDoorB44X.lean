import Derived.Test.YtoemfkkeojmgkaaDoorB44C
namespace Go.Eng
theorem b44awake : (b44f17T []).run = some (0, [.b true]) := by kernel_rfl
end Go.Eng
