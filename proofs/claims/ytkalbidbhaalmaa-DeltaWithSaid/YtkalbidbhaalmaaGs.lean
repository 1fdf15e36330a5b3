/- All plain functions. -/
import Derived.Test.YtkalbidbhaalmaaG0
