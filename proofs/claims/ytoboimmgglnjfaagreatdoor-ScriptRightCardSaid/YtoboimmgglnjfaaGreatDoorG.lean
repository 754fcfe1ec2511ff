/- All models. -/
import Derived.Test.YtoboimmgglnjfaaGreatDoorG3
