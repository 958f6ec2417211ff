import Derived.Test.YtcdlfamincogdaaDoorPBonus
namespace Go.Eng
def oth (x2 x3 x4 x5 : Int) (x6 : Bool) : Int := if (x5 = 2) = (x6 = true) then x3 + x4 + (if x5 = 0 then 0 else x3 - x2) else x2 - x4 - (if x5 = 0 then 0 else x3 - x2)
end Go.Eng
