/-
  CacheEach's cases, a part.
-/
import Derived.Test.YtalcembgjcekcaaEachD
namespace Go.Proofs.Ytalcembgjcekcaa
open Go.Abs Go
set_option maxHeartbeats 0 in
theorem each_4_1 : EachP 4 1 := by intro n drop h; kernel_rfl
set_option maxHeartbeats 0 in
theorem each_4_2 : EachP 4 2 := by intro n drop h; kernel_rfl
set_option maxHeartbeats 0 in
theorem each_4_3 : EachP 4 3 := by intro n drop h; kernel_rfl
set_option maxHeartbeats 0 in
theorem each_4_4 : EachP 4 4 := by intro n drop h; kernel_rfl
set_option maxHeartbeats 0 in
theorem each_4_5 : EachP 4 5 := by intro n drop h; kernel_rfl
set_option maxHeartbeats 0 in
theorem each_4_6 : EachP 4 6 := by intro n drop h; kernel_rfl
end Go.Proofs.Ytalcembgjcekcaa
