/- All models. -/
import Derived.Test.YtcojcgljfgljjaaG3
