/- All models. -/
import Derived.Test.YtmfbghpealgaiaaGreatDoorG5
