/-
  The statement CurveTimes: its walk, and its arguments opened.
-/
import Derived.Test.YtndohjgfjbopnaaTml
import Derived.Test.YtndohjgfjbopnaaArgs
import Derived.Test.YtndohjgfjbopnaaArga
