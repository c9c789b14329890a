/-
  Layer 4: the reference: bits; what a handle's ways come to.
-/
import Derived.Test.YtinieegaaimilaaCi
set_option linter.unusedSimpArgs false
set_option linter.unusedVariables false
set_option maxRecDepth 100000
namespace Go.Proofs.Ytinieegaaimilaa
open Go Go.Ev Go.Proofs

def bitB (n h : Int) : Bool := andI .i64 (shrV .i64 n h) 1 == 1
theorem bit_s {w : World} {n h : Int} {k : Bool → World → Prop} (h0 : 0 ≤ h) (h1 : h < 64) (hc : k (bitB n h) w) : pelotonref04_bit n h w k := by
  have hw : IntKind.wrap .u64 h = h := by
    have e : ∀ m : Nat, m < 64 → IntKind.wrap .u64 (m : Int) = (m : Int) := by decide
    have := e h.toNat (by omega)
    rwa [Int.toNat_of_nonneg h0] at this
  unfold pelotonref04_bit
  rw [hw]
  exact ⟨h0, hc⟩
end Go.Proofs.Ytinieegaaimilaa
