/- sum.parts and sum.whole: a sum's two numbers taken apart and put together by bits are its quotient and remainder by 65536: for every 32-bit number, and every two numbers below 65536. -/
import Derived.Test.YtnobgbndgjfiaaaProg
import Derived.WalkKit
import Derived.Laws.BitsLemmas
namespace Go.Proofs.Ytnobgbndgjfiaaa
open Go.RowKit

theorem u32_and_mask (n : Int) (h0 : 0 ≤ n) (h1 : n < 4294967296) : bits .and .u32 n 65535 = n % 65536 :=
  bits_mask .u32 32 (by decide) (fun m a b => by rw [IntKind.wrap_u32]; omega) 16 (by decide) n h0 (by omega)
theorem u32_or_join (x y : Int) (h0 : 0 ≤ x) (h1 : x < 65536) (h2 : 0 ≤ y) (h3 : y < 65536) : bits .or .u32 (x * 65536) y = x * 65536 + y :=
  bits_join .u32 32 (by decide) (fun m a b => by rw [IntKind.wrap_u32]; omega) 16 (x * 65536) y (by omega) (by omega) (by omega) h2 (by omega) (by omega)

theorem parts_any (n : Int) (h0 : 0 ≤ n) (h1 : n < 4294967296) (w : World) :
    Calls Try.prog 38 #[.int .u32 n] w fun e w' => e = .returned (.tuple #[.int .u32 (n % 65536), .int .u32 (n / 65536)]) ∧ w = w' := by
  go_enter Try.func38, Try.ntmps38
  go_wp2
  rw [u32_and_mask n h0 h1]
  go_ret2
  exact ⟨rfl, rfl⟩
theorem whole_any (low high : Int) (h0 : 0 ≤ low) (h1 : low < 65536) (h2 : 0 ≤ high) (h3 : high < 65536) (w : World) :
    Calls Try.prog 40 #[.int .u32 low, .int .u32 high] w fun e w' => e = .returned (.int .u32 (high * 65536 + low)) ∧ w = w' := by
  go_enter Try.func40, Try.ntmps40
  go_wp2
  rw [u32_or_join high low h2 h3 h0 h1]
  go_ret
  exact ⟨rfl, rfl⟩
end Go.Proofs.Ytnobgbndgjfiaaa
