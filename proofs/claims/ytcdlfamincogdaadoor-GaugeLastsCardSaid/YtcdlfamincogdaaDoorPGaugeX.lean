import Derived.Test.YtcdlfamincogdaaDoorC
namespace Go.Eng
theorem p_law47_awake : (law47_awake_T []).run = some (0, [.b true]) := by kernel_rfl
end Go.Eng
