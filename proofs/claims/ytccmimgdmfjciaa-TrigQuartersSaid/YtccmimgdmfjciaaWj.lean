/-
  The examples at the head of all the statements: they are true.
-/
import Derived.Test.YtccmimgdmfjciaaWb
import Derived.Test.YtccmimgdmfjciaaWf
import Derived.Test.YtccmimgdmfjciaaWg
namespace Go.Proofs.Ytccmimgdmfjciaa
open Go.RowKit
theorem shown9 (w : World) : Calls Try.prog 9 #[] w fun e w' => e = .returned (.bool true) ∧ Below w.heap.size w w' := by
  have f1 : wrap64 (sinN 1073741824 - 16777216) < 16 := by decide +kernel
  have f2 : wrap64 (16777216 - sinN 1073741824) < 16 := by decide +kernel
  have f3 : wrap64 (cosN 1073741824 - 0) < 16 := by decide +kernel
  have f4 : wrap64 (0 - cosN 1073741824) < 16 := by decide +kernel
  have f5 : decide (wrapD (atN 16777216 16777216) 536870912 < 256) = true := by decide +kernel
  have f6 : decide (-256 < wrapD (atN 16777216 16777216) 536870912) = true := by decide +kernel
  have f7 : tn 29 = 1 := by decide +kernel
  have C10 := fun W => Lib.hid (sincos10 1073741824 W)
  have C12 := fun W => Lib.hid (atan12 16777216 16777216 W)
  have C18s := fun W => Lib.hid (near18 (sinN 1073741824) 16777216 16 W f1 f2)
  have C18c := fun W => Lib.hid (near18 (cosN 1073741824) 0 16 W f3 f4)
  have C14 : ∀ W, Hid (Calls Try.prog 14 #[.int .i64 29] W fun e w' => e = .returned (.int .i32 1) ∧ Below W.heap.size W w') := fun W => Lib.hid (by rw [← f7]; exact turn_any 29 W (by omega) (by omega))
  clear f1 f2 f3 f4 f7
  generalize sinN 1073741824 = s at *
  generalize cosN 1073741824 = c at *
  generalize atN 16777216 16777216 = t at *
  have C16 := fun W => Lib.hid (wrap16 t 536870912 W)
  generalize wrapD t 536870912 = d at *
  go_enter Try.func9, Try.ntmps9
  go_wp2_with (first
    | (go_at_call 10; refine (C10 _).out.mono ?_; rintro e w1 ⟨rfl, h1⟩)
    | (go_at_call 12; refine (C12 _).out.mono ?_; rintro e w2 ⟨rfl, h2⟩)
    | (go_at_call 16; refine (C16 _).out.mono ?_; rintro e w3 ⟨rfl, rfl⟩)
    | (go_at_call_of 18 s; refine (C18s _).out.mono ?_; rintro e w4 ⟨rfl, rfl⟩)
    | (go_at_call_of 18 c; refine (C18c _).out.mono ?_; rintro e w5 ⟨rfl, rfl⟩)
    | (go_at_call 14; refine (C14 _).out.mono ?_; rintro e w6 ⟨rfl, h6⟩))
  go_ret
  exact ⟨rfl, h1.trans ((h2.mono h1.size).trans (h6.mono (Nat.le_trans h1.size h2.size)))⟩
end Go.Proofs.Ytccmimgdmfjciaa
