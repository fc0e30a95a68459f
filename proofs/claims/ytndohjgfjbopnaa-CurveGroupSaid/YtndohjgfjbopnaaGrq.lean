/-
  The statement CurveGroup: its walk, and its arguments opened.
-/
import Derived.Test.YtndohjgfjbopnaaGrw
import Derived.Test.YtndohjgfjbopnaaArgs
import Derived.Test.YtndohjgfjbopnaaArga
