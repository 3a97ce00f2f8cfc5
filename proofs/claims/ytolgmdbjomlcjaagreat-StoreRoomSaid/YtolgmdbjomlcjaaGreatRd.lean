/- All readings of this seat. -/
import Derived.Test.YtolgmdbjomlcjaaGreatRdA
import Derived.Test.YtolgmdbjomlcjaaGreatRdB
