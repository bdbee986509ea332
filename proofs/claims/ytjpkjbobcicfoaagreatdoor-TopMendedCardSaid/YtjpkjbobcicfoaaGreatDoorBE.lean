/-
  Known calls of the closed run, by the evaluator. Conditions: none.
-/
import Derived.Test.YtjpkjbobcicfoaaGreatDoorBB
import Derived.Test.YtjpkjbobcicfoaaGreatDoorBD
set_option linter.unusedSimpArgs false
set_option linter.unusedVariables false
namespace Go.Av
noncomputable def KBE0:Kn:=[en20,en19,en18,en17,en16,en15,en14,en13,en12,en6,en5,en4,en3,en2,en1,en0]
theorem KBE0_ok:KnOK KBE0:=(KnOK.cons pf20 (KnOK.cons pf19 (KnOK.cons pf18 (KnOK.cons pf17 (KnOK.cons pf16 (KnOK.cons pf15 (KnOK.cons pf14 (KnOK.cons pf13 (KnOK.cons pf12 (KnOK.cons pf6 (KnOK.cons pf5 (KnOK.cons pf4 (KnOK.cons pf3 (KnOK.cons pf2 (KnOK.cons pf1 (KnOK.cons pf0 KnOK.nil))))))))))))))))
noncomputable def en21:Nat×List AV×AV:=(347,[(.agg [(.int .i64 (2)),(.int .i64 (1)),(.int .i64 (0)),(.ro [[(.int .i64 (0)),(.ro [[.bool false,(.int .i64 (0))],[.bool true,(.int .i64 (0))],[.bool false,(.int .i64 (1))]])],[(.int .i64 (0)),(.ro [])]])]),(.ro [[(.int .i64 (0))],[(.int .i64 (1))]]),(.ro [[(.ro [[(.int .i64 (0)),(.int .i64 (0)),(.int .i64 (0))],[(.int .i64 (1)),(.int .i64 (0)),(.int .i64 (0))]])],[(.ro [[(.int .i64 (0)),(.int .i64 (0)),(.int .i64 (1))],[(.int .i64 (0)),(.int .i64 (1)),(.int .i64 (0))],[(.int .i64 (0)),(.int .i64 (2)),(.int .i64 (0))],[(.int .i64 (1)),(.int .i64 (0)),(.int .i64 (1))]])],[(.ro [[(.int .i64 (0)),(.int .i64 (3)),(.int .i64 (0))]])]]),(.ro [[(.int .i64 (0))],[(.int .i64 (1))]])],.bool true)
theorem pf21:PFS Go.Proofs.Tryz.prog en21.1 en21.2.1 en21.2.2:=chk_ok (K:=KBE0) KBE0_ok (by kernel_rfl)
noncomputable def KBE1:Kn:=en21::KBE0
theorem KBE1_ok:KnOK KBE1:=KnOK.cons pf21 KBE0_ok
noncomputable def en22:Nat×List AV×AV:=(336,[(.agg [(.int .i64 (2)),(.int .i64 (1)),(.int .i64 (0)),(.ro [[(.int .i64 (0)),(.ro [[.bool false,(.int .i64 (0))],[.bool true,(.int .i64 (0))],[.bool false,(.int .i64 (1))]])],[(.int .i64 (0)),(.ro [])]])]),(.ro [[(.int .i64 (0))],[(.int .i64 (1))]]),(.agg [(.int .i64 (1)),(.ro [[(.int .i64 (0))],[(.int .i64 (1))]]),.bool true,(.int .i64 (0)),(.int .u32 (0)),(.ro [])]),(.agg [(.ro [[(.ro [[(.int .i64 (0)),(.int .i64 (0)),(.int .i64 (0))],[(.int .i64 (1)),(.int .i64 (0)),(.int .i64 (0))]])],[(.ro [[(.int .i64 (0)),(.int .i64 (0)),(.int .i64 (1))],[(.int .i64 (0)),(.int .i64 (1)),(.int .i64 (0))],[(.int .i64 (0)),(.int .i64 (2)),(.int .i64 (0))],[(.int .i64 (1)),(.int .i64 (0)),(.int .i64 (1))]])],[(.ro [[(.int .i64 (0)),(.int .i64 (3)),(.int .i64 (0))]])]]),(.ro [])])],.bool true)
theorem pf22:PFS Go.Proofs.Tryz.prog en22.1 en22.2.1 en22.2.2:=chk_ok (K:=KBE1) KBE1_ok (by kernel_rfl)
noncomputable def KBE2:Kn:=en22::KBE1
theorem KBE2_ok:KnOK KBE2:=KnOK.cons pf22 KBE1_ok
noncomputable def en23:Nat×List AV×AV:=(292,[(.ro [[(.int .u8 (2))],[(.int .u8 (1))],[(.int .u8 (0))],[(.int .u8 (2))],[(.int .u8 (0))],[(.int .u8 (3))],[(.int .u8 (0))],[(.int .u8 (1))],[(.int .u8 (2))],[(.int .u8 (0))],[(.int .u8 (0))]]),(.ro [[(.int .u8 (2))],[(.int .u8 (0))],[(.int .u8 (1))]]),(.ro [[(.int .u8 (1))],[(.int .u8 (2))],[(.int .u8 (0))],[(.int .u8 (1))],[(.int .u8 (1))],[(.int .u8 (0))],[(.int .u8 (0))],[(.int .u8 (0))]]),(.ro [[(.int .u8 (3))],[(.int .u8 (2))],[(.int .u8 (0))],[(.int .u8 (0))],[(.int .u8 (0))],[(.int .u8 (1))],[(.int .u8 (0))],[(.int .u8 (0))],[(.int .u8 (4))],[(.int .u8 (0))],[(.int .u8 (0))],[(.int .u8 (1))],[(.int .u8 (0))],[(.int .u8 (1))],[(.int .u8 (0))],[(.int .u8 (0))],[(.int .u8 (2))],[(.int .u8 (0))],[(.int .u8 (1))],[(.int .u8 (0))],[(.int .u8 (1))],[(.int .u8 (1))],[(.int .u8 (0))],[(.int .u8 (3))],[(.int .u8 (0))],[(.int .u8 (0))]])],(.int .i64 (0)))
theorem pf23:PFS Go.Proofs.Tryz.prog en23.1 en23.2.1 en23.2.2:=chk_ok (K:=KBE2) KBE2_ok (by kernel_rfl)
end Go.Av
