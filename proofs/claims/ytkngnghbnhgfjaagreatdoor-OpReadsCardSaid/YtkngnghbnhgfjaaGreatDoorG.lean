/- All models. -/
import Derived.Test.YtkngnghbnhgfjaaGreatDoorG2
