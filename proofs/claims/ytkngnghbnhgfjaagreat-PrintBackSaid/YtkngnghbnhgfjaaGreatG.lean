/- All models. -/
import Derived.Test.YtkngnghbnhgfjaaGreatG2
