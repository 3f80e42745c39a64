/- EnvChain: part 13. -/
import Derived.Test.YthkndfiekgaojaaGreatDoorEv12
import Derived.Test.YthkndfiekgaojaaGreatDoorEv10
