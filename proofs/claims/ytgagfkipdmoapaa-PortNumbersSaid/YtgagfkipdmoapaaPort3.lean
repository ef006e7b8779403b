/- the laws of the port (so far) -/
import Derived.Test.YtgagfkipdmoapaaPort2
