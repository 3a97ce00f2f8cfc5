/- All readings of this seat. -/
import Derived.Test.YtofgadhgljjhgaaGreatRdA
import Derived.Test.YtofgadhgljjhgaaGreatRdB
import Derived.Test.YtofgadhgljjhgaaGreatRdC
