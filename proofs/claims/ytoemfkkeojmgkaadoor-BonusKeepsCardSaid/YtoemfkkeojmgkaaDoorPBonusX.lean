import Derived.Test.YtoemfkkeojmgkaaDoorC
namespace Go.Eng
theorem p_law44_awake : (law44_awake_T []).run = some (0, [.b true]) := by kernel_rfl
end Go.Eng
