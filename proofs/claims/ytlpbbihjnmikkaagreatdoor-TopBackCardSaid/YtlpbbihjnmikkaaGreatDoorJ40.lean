/-
  Joined: PlyD0
-/
import Derived.Test.YtlpbbihjnmikkaaGreatDoorJ39
namespace Go.Proofs.YtlpbbihjnmikkaaGreatDoor.Exe.Ply
set_option maxRecDepth 100000
noncomputable def p0 : Piece where
  nx0 := 101
  args := []
  pre := [(0, tableT)]
  old := []
  new := []
  nx1 := 2804
  v := (.one (.bool true))
theorem p0_ok : pieceOk p0 (runA Tryz.prog known 1000 99 4 p0.args (build p0.pre) p0.nx0 0 0) = true := by kernel_rfl
noncomputable def p2 : Piece where
  nx0 := 3391
  args := [(.one (.ptr 2808 0)), (.agg 11 [(.nat 9), (.nat 1), (.nat 1), (.nat 0), (.nat 0), (.nat 0), (.nat 0), (.nat 0), (.flat (.slice .none 0 0)), (.flat (.slice .none 0 0)), (.flat (.slice .none 0 0))])]
  pre := [(2808, x2), (2824, x6), (2896, x75)]
  old := [(2808, some x106), (2824, some x107)]
  new := []
  nx1 := 3394
  v := (.agg 4 [(.nat 0), (.nat 0), (.nat 0), (.flat (.slice .none 0 0))])
theorem p2_ok : pieceOk p2 (runA Tryz.prog known 1000 99 7 p2.args (build p2.pre) p2.nx0 0 0) = true := by kernel_rfl
end Go.Proofs.YtlpbbihjnmikkaaGreatDoor.Exe.Ply
