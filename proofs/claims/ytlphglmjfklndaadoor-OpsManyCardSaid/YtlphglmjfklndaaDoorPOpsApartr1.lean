/- What print.sh wrote for functions of the document, with ends that fell mended (reprint.py). -/
import Derived.Test.YtlphglmjfklndaaDoorPOpsApartr0
namespace Go.Proofs.YtlphglmjfklndaaDoor.POpsApart
open Go.RowKit Go.Proofs.YtlphglmjfklndaaDoorW.PrintWords Go.Proofs.YtlphglmjfklndaaDoorW.PrintLast Go.Proofs.YtlphglmjfklndaaDoorW.PrintMore
attribute [local go_sem] max2_int min2_int max_two min_two max_three min_three max_four min_four   -- for this text's walks alone
set_option linter.unusedVariables false
set_option linter.unusedSimpArgs false

theorem eqA27 (d : Nat) (w : World) (x0 y0 : ByteArray) (x1 y1 : Int) (x2 y2 : Int) :
    (Op.equalIn (d + 2) 27 (.agg #[.string x0, .int .i64 x1, .int .i64 x2]) (.agg #[.string y0, .int .i64 y1, .int .i64 y2])).run Tryd.prog w = .ok (x0.toList == y0.toList && (x1 == y1 && (x2 == y2))) w := by
  refine eqA_of Tryd.underlying27 (by kernel_rfl) ?_
  refine eqf_cons (by rfl) (by go_simp; rfl) (by go_simp; rfl) (by go_simp) ?_
  refine eqf_cons (by rfl) (by go_simp; rfl) (by go_simp; rfl) (by go_simp) ?_
  exact eqf_last (by rfl) (by go_simp; rfl) (by go_simp; rfl) (by go_simp)
end Go.Proofs.YtlphglmjfklndaaDoor.POpsApart
