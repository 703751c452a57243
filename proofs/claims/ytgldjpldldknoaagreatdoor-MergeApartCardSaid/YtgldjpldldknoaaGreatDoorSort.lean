/- No contract of the sort is wanted in this seat. -/
import Derived.Test.YtgldjpldldknoaaGreatDoorProg
