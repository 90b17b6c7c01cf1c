/-
  CacheEach's cases, a part.
-/
import Derived.Test.YtalcembgjcekcaaEachD
namespace Go.Proofs.Ytalcembgjcekcaa
open Go.Abs Go
set_option maxHeartbeats 0 in
theorem each_5_1 : EachP 5 1 := by intro n drop h; kernel_rfl
set_option maxHeartbeats 0 in
theorem each_5_2 : EachP 5 2 := by intro n drop h; kernel_rfl
set_option maxHeartbeats 0 in
theorem each_5_3 : EachP 5 3 := by intro n drop h; kernel_rfl
set_option maxHeartbeats 0 in
theorem each_5_4 : EachP 5 4 := by intro n drop h; kernel_rfl
set_option maxHeartbeats 0 in
theorem each_5_5 : EachP 5 5 := by intro n drop h; kernel_rfl
set_option maxHeartbeats 0 in
theorem each_5_6 : EachP 5 6 := by intro n drop h; kernel_rfl
end Go.Proofs.Ytalcembgjcekcaa
