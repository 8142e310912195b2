/- Nothing of this text is used here. -/
import Derived.Test.YtegppacnkfeaoaaGreatDoorWN
