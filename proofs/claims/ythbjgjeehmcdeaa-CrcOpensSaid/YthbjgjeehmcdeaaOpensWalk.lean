/-
  The walk of CrcOpens: whatever the text, the two ways of opening and of sealing agree.
-/
import Derived.Test.YthbjgjeehmcdeaaAwake
namespace Go.Proofs.Ythbjgjeehmcdeaa
open Go.RowKit
set_option maxRecDepth 100000 in
set_option maxHeartbeats 400000 in
theorem opens_walk (s : ByteArray) (_hm : s.size ≤ maxLen) (w : World) :
    Calls Try.prog 5 #[.string s] w fun e w' => e = .returned (.bool true) ∧ Below w.heap.size w w' := by
  unfold maxLen at _hm
  by_cases hl : 600 < s.size
  · go_enter Try.func5, Try.ntmps5
    go_wp2_with (go_at_call 8; refine (awake_any _).mono ?_; rintro e w1 ⟨rfl, hb1⟩)
    go_ret
    exact ⟨rfl, hb1⟩
  · have hz : s.size ≤ 604 := by omega
    by_cases h4 : s.size < 4
    · go_enter Try.func5, Try.ntmps5
      go_wp2_with (first | (go_at_call 14; refine (open_short _ h4 _).mono ?_; rintro e w1 ⟨rfl, rfl⟩) | (go_at_call 15; refine (refOpen_short _ h4 _).mono ?_; rintro e w1 ⟨rfl, rfl⟩) | (go_at_call 16; refine (seal_any _ hz _).mono ?_; rintro e w1 ⟨rfl, hb1⟩) | (go_at_call 17; refine (refSeal _ hz _).mono ?_; rintro e w1 ⟨rfl, hb1⟩) | (go_at_call 8; refine (awake_any _).mono ?_; rintro e w1 ⟨rfl, hb1⟩))

      go_ret
      refine ⟨rfl, ?_⟩
      repeat (first | exact Below.refl _ _ | (refine thenB ?_ (by assumption)) | refine allocB ?_ _)
    · have h4' : 4 ≤ s.size := by omega
      by_cases h0 : sum s.data.toList = 0#32
      · have H0 := Lib.hid h0
        clear h0
        go_enter Try.func5, Try.ntmps5
        go_wp2_with (first | (go_at_call 14; refine (open_ok _ h4' hz H0.out _).mono ?_; rintro e w1 ⟨rfl, hb1⟩) | (go_at_call 15; refine (refOpen_ok _ h4' hz H0.out _).mono ?_; rintro e w1 ⟨rfl, hb1⟩) | (go_at_call 16; refine (seal_any _ hz _).mono ?_; rintro e w1 ⟨rfl, hb1⟩) | (go_at_call 17; refine (refSeal _ hz _).mono ?_; rintro e w1 ⟨rfl, hb1⟩) | (go_at_call 8; refine (awake_any _).mono ?_; rintro e w1 ⟨rfl, hb1⟩))
        go_ret
        refine ⟨rfl, ?_⟩
        repeat (first | exact Below.refl _ _ | (refine thenB ?_ (by assumption)) | refine allocB ?_ _)
      · have H0 := Lib.hid h0
        clear h0
        go_enter Try.func5, Try.ntmps5
        go_wp2_with (first | (go_at_call 14; refine (open_sum _ h4' hz H0.out _).mono ?_; rintro e w1 ⟨rfl, hb1⟩) | (go_at_call 15; refine (refOpen_sum _ h4' hz H0.out _).mono ?_; rintro e w1 ⟨rfl, hb1⟩) | (go_at_call 16; refine (seal_any _ hz _).mono ?_; rintro e w1 ⟨rfl, hb1⟩) | (go_at_call 17; refine (refSeal _ hz _).mono ?_; rintro e w1 ⟨rfl, hb1⟩) | (go_at_call 8; refine (awake_any _).mono ?_; rintro e w1 ⟨rfl, hb1⟩))
        go_ret
        refine ⟨rfl, ?_⟩
        repeat (first | exact Below.refl _ _ | (refine thenB ?_ (by assumption)) | refine allocB ?_ _)
end Go.Proofs.Ythbjgjeehmcdeaa
