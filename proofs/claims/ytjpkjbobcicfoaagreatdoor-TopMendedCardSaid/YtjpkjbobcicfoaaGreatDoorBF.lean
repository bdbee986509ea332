/-
  The closed run. Conditions: none.
-/
import Derived.Test.YtjpkjbobcicfoaaGreatDoorBC
import Derived.Test.YtjpkjbobcicfoaaGreatDoorBE
set_option linter.unusedSimpArgs false
set_option linter.unusedVariables false
namespace Go.Av
noncomputable def Kall:Kn:=[en0,en1,en2,en3,en4,en5,en6,en7,en8,en9,en10,en11,en12,en13,en14,en15,en16,en17,en18,en19,en20,en21,en22,en23]
theorem Kall_ok:KnOK Kall:=(KnOK.cons pf0 (KnOK.cons pf1 (KnOK.cons pf2 (KnOK.cons pf3 (KnOK.cons pf4 (KnOK.cons pf5 (KnOK.cons pf6 (KnOK.cons pf7 (KnOK.cons pf8 (KnOK.cons pf9 (KnOK.cons pf10 (KnOK.cons pf11 (KnOK.cons pf12 (KnOK.cons pf13 (KnOK.cons pf14 (KnOK.cons pf15 (KnOK.cons pf16 (KnOK.cons pf17 (KnOK.cons pf18 (KnOK.cons pf19 (KnOK.cons pf20 (KnOK.cons pf21 (KnOK.cons pf22 (KnOK.cons pf23 KnOK.nil))))))))))))))))))))))))
theorem awake_pf:PFS Go.Proofs.Tryz.prog 6 [] (.bool true):=chk_ok Kall_ok (by kernel_rfl)
end Go.Av
