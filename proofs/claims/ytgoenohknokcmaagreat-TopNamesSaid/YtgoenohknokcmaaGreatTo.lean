/- What one makes another one has, saved and loaded: the run of the whole engine at one input. -/
import Derived.Test.YtgoenohknokcmaaGreatCk
namespace Go.AM
theorem sY:o4=some [.bool true]:=by kernel_rfl
end Go.AM
