/- All models. -/
import Derived.Test.YtoboimmgglnjfaaGreatDoorG2
