/-
  The statement CurveBytes: its walk, and its arguments opened.
-/
import Derived.Test.YtndohjgfjbopnaaByt
import Derived.Test.YtndohjgfjbopnaaArgs
import Derived.Test.YtndohjgfjbopnaaArga
