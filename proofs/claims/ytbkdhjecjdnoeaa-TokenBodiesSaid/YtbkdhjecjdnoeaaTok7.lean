/- the law and all functions -/
import Derived.Test.YtbkdhjecjdnoeaaTok5
import Derived.Test.YtbkdhjecjdnoeaaTok6
