/- int(uint(a) % m) as a number. -/
import Derived.Test.YtndldoamadmphaaLib
namespace Go.Proofs.Ytndldoamadmphaa
open Go.RowKit
theorem u64_tmod (a m : Int) (hm : 0 < m) : 0 ≤ (IntKind.u64.wrap a).tmod m ∧ (IntKind.u64.wrap a).tmod m < m := by
  have h : 0 ≤ IntKind.u64.wrap a := by rw [IntKind.wrap_u64]; omega
  rw [Int.tmod_eq_emod_of_nonneg h]
  exact ⟨Int.emod_nonneg _ (by omega), Int.emod_lt_of_pos _ hm⟩
/-- int(uint(a) % m). -/
def umod (a : Int) (m : Nat) : Nat := ((IntKind.u64.wrap a).tmod m).toNat
theorem umod_lt (a : Int) (m : Nat) (hm : 0 < m) : umod a m < m := by
  have := u64_tmod a m (by omega)
  unfold umod
  omega
theorem umod_eq (a : Int) (m : Nat) (hm : 0 < m) : (IntKind.u64.wrap a).tmod m = (umod a m : Int) := by
  have := u64_tmod a m (by omega)
  unfold umod
  omega
theorem umod_w64 (a : Int) (m : Nat) (mI : Int) (hI : mI = m) (hm : 0 < m) (hm2 : m ≤ 1000000) : wrap64 ((IntKind.u64.wrap a).tmod mI) = (umod a m : Int) := by
  subst hI
  have := umod_lt a m hm
  rw [umod_eq a m hm]
  unfold wrap64
  omega

end Go.Proofs.Ytndldoamadmphaa
