/- All models. -/
import Derived.Test.YtcaepigodglihaaG2
