/- Small facts on Go's whole numbers as the printed functions spell them. -/
import Derived.RowKit
import Derived.OpenShut
import Derived.WalkArith
import Derived.Test.YtajlgfjmocgoeadWWords
import Derived.Test.YtajlgfjmocgoeadWMore
namespace Go.Proofs.Ytajlgfjmocgoead.Lib
open Go.RowKit Go.Proofs.YtajlgfjmocgoeadW.PrintWords Go.Proofs.YtajlgfjmocgoeadW.PrintLast Go.Proofs.YtajlgfjmocgoeadW.PrintMore

theorem wf_bounds {a : Int} (h : (Lit.int .i64 a).wf = true) : -9223372036854775808 ≤ a ∧ a ≤ 9223372036854775807 := bounds_i64 h
theorem w64 {n : Int} (h1 : -9223372036854775808 ≤ n) (h2 : n ≤ 9223372036854775807) : wrap64 n = n := by unfold wrap64; omega
theorem u64_wrap (n : Int) : IntKind.u64.wrap n = n % 18446744073709551616 := by
  simp [IntKind.wrap, IntKind.signed, IntKind.bits]
theorem u64_id {n : Int} (h1 : 0 ≤ n) (h2 : n < 18446744073709551616) : IntKind.u64.wrap n = n := by
  rw [u64_wrap]; omega
theorem i64_wrap (n : Int) : IntKind.i64.wrap n = wrap64 n := by
  unfold wrap64
  simp [IntKind.wrap, IntKind.signed, IntKind.bits]
  omega

theorem bind_some {α β : Type} (a : α) (f : α → Option β) : (some a).bind f = f a := rfl

theorem tmod_nn {a b : Int} (h : 0 ≤ a) : Int.tmod a b = a % b := Int.tmod_eq_emod_of_nonneg h
theorem tdiv_nn {a b : Int} (h : 0 ≤ a) : Int.tdiv a b = a / b := Int.tdiv_eq_ediv_of_nonneg h

end Go.Proofs.Ytajlgfjmocgoead.Lib
