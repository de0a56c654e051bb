/- WALK OF THE STATEMENT SpansChecks. -/
import Derived.Test.YtahdlbckcddeeaaSpansT
import Derived.Test.YtahdlbckcddeeaaSpansPlain7
import Derived.Test.YtahdlbckcddeeaaSpansI
namespace Go.Proofs.Ytahdlbckcddeeaa
open Go.RowKit
set_option linter.unusedVariables false
set_option maxRecDepth 100000 in
set_option maxHeartbeats 1000000 in
theorem spansChecks_any (a : Option Addr) (len cap : Nat) (L : List Item) (a2 : Option Addr) (len2 cap2 : Nat) (s : List (Int × Int)) (w : World) (hi : ItemsSl w a len L) (ht : TinyL L) (hs : SpansSl w a2 len2 s) :
    Calls Try.prog 3 #[.slice a len cap, .slice a2 len2 cap2] w fun e w' => e = .returned (.bool true) ∧ Below w.heap.size w w' := by
  have hl47 := hi.2.1
  by_cases b1 : 150 < len
  · clear hi hs ht
    go_enter Try.func3, Try.ntmps3
    go_wp2_with fail
    refine (alive_any _).mono ?_
    rintro e w4 ⟨rfl, hb4⟩
    go_wp2_with fail
    go_ret
    exact ⟨rfl, hb4⟩
  by_cases b2 : 150 < len2
  · clear hi hs ht
    go_enter Try.func3, Try.ntmps3
    go_wp2_with fail
    refine (alive_any _).mono ?_
    rintro e w4 ⟨rfl, hb4⟩
    go_wp2_with fail
    go_ret
    exact ⟨rfl, hb4⟩
  have HI := Lib.hid hi
  have HS := Lib.hid hs
  have HT := Lib.hid ht
  have HL2 := Lib.hid hs.1
  clear hi hs ht
  go_enter Try.func3, Try.ntmps3
  go_wp2_with fail
  refine (alive_any _).mono ?_
  rintro e w1 ⟨rfl, hb1⟩
  go_wp2_with fail
  refine (own_any a2 len2 cap2 s (by omega) _ (HS.out.below hb1)).mono ?_
  rintro e w2 ⟨a', cap', rfl, hs2, hb2⟩
  have HS2 := Lib.hid hs2
  clear hs2
  have hb12 := hb1.trans (hb2.mono hb1.size)
  go_wp2_with fail
  refine (scheck_any a len cap L a' s.length cap' s (by rw [← HL2.out]; omega) _ (HI.out.below hb12) HS2.out).mono ?_
  rintro e w3 ⟨rfl, hb3⟩
  have hb13 := hb12.trans (hb3.mono hb12.size)
  go_wp2_with fail
  refine (rscheck_any a len cap L a2 len2 cap2 s (by omega) _ (HI.out.below hb13) HT.out (HS.out.below hb13)).mono ?_
  rintro e w4 ⟨rfl, hb4⟩
  rw [check_eq]
  have hb14 := hb13.trans (hb4.mono hb13.size)
  generalize rcheckSB L s = r
  cases r
  · go_wp2_with fail
    go_ret
    exact ⟨rfl, hb14⟩
  · go_wp2_with fail
    go_ret
    exact ⟨rfl, hb14⟩
end Go.Proofs.Ytahdlbckcddeeaa
