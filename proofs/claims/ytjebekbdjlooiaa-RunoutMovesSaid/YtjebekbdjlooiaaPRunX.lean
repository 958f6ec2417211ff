import Derived.Test.YtjebekbdjlooiaaC
namespace Go.Eng
theorem p_law38_awake : (law38_awake_T []).run = some (0, [.b true]) := by kernel_rfl
end Go.Eng
