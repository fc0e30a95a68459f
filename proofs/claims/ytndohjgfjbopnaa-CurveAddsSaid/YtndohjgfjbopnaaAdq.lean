/-
  The statement CurveAdds: its walk, and its arguments opened.
-/
import Derived.Test.YtndohjgfjbopnaaAds
import Derived.Test.YtndohjgfjbopnaaArgs
import Derived.Test.YtndohjgfjbopnaaArga
