/- All models. -/
import Derived.Test.YtoakfflcpcdbeaaDoorG2
