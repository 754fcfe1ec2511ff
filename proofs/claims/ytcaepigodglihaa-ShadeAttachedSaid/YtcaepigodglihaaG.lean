/- All models. -/
import Derived.Test.YtcaepigodglihaaG3
