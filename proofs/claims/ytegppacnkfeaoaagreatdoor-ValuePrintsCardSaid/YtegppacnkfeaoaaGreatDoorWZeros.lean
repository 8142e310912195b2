/- Nothing of this text is used here. -/
import Derived.Test.YtegppacnkfeaoaaGreatDoorWApart
import Derived.Test.YtegppacnkfeaoaaGreatDoorWArr
