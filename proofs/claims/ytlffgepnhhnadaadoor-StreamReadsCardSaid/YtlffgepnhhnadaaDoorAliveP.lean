/- The laws' first question, in plain Lean: a point, framed and read. -/
import Derived.Test.YtlffgepnhhnadaaDoorHex
namespace Go.Proofs.YtlffgepnhhnadaaDoor.Pl
open Go.RowKit

def aliveG : G := .mk 1 [(4607182418800017408, 4611686018427387904)] [] []
def aliveB : List UInt8 := frameB (encG [false] aliveG 0)
theorem alive_check : checkR aliveG = none := by kernel_rfl
theorem alive_len : aliveB.length = 33 := by kernel_rfl
theorem alive_head : hexB (aliveB.take 13) = [53, 48, 52, 99, 52, 100, 51, 49, 48, 48, 48, 48, 48, 48, 49, 53, 48, 48, 48, 48, 48, 48, 48, 48, 48, 49] := by kernel_rfl
theorem alive_sum : sumR [49, 50, 51, 52, 53, 54, 55, 56, 57] = 3421780262 := by kernel_rfl
theorem alive_read : feedR 1 34 aliveB = ([aliveG], 33, [], none) := by kernel_rfl
end Go.Proofs.YtlffgepnhhnadaaDoor.Pl
