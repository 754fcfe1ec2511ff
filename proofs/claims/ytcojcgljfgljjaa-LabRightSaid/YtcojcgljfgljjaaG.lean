/- All models. -/
import Derived.Test.YtcojcgljfgljjaaG2
