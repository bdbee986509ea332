/-
  Known calls of the closed run, by the evaluator. Conditions: none.
-/
import Derived.Test.YtjpkjbobcicfoaaGreatDoorBA
set_option linter.unusedSimpArgs false
set_option linter.unusedVariables false
namespace Go.Av
noncomputable def en0:Nat×List AV×AV:=(26,[(.agg [(.int .i64 (2)),(.int .i64 (1)),(.int .i64 (0)),(.ro [[(.int .i64 (0)),(.ro [[.bool false,(.int .i64 (0))],[.bool true,(.int .i64 (0))],[.bool false,(.int .i64 (1))]])],[(.int .i64 (0)),(.ro [])]])])],(.tup [(.int .i64 (0)),(.int .i64 (0))]))
theorem pf0:PFS Go.Proofs.Tryz.prog en0.1 en0.2.1 en0.2.2:=chk_ok (K:=([]:Kn)) KnOK.nil (by kernel_rfl)
noncomputable def KBB1:Kn:=en0::([]:Kn)
theorem KBB1_ok:KnOK KBB1:=KnOK.cons pf0 KnOK.nil
noncomputable def en1:Nat×List AV×AV:=(30,[(.agg [(.int .i64 (2)),(.int .i64 (1)),(.int .i64 (0)),(.ro [[(.int .i64 (0)),(.ro [[.bool false,(.int .i64 (0))],[.bool true,(.int .i64 (0))],[.bool false,(.int .i64 (1))]])],[(.int .i64 (0)),(.ro [])]])]),(.ro [[(.int .i64 (0))],[(.int .i64 (1))]])],(.ro [[(.ro [[(.int .i64 (0)),(.int .i64 (0)),(.int .i64 (0))],[(.int .i64 (1)),(.int .i64 (0)),(.int .i64 (0))]])],[(.ro [[(.int .i64 (0)),(.int .i64 (0)),(.int .i64 (1))],[(.int .i64 (0)),(.int .i64 (1)),(.int .i64 (0))],[(.int .i64 (0)),(.int .i64 (2)),(.int .i64 (0))],[(.int .i64 (1)),(.int .i64 (0)),(.int .i64 (1))]])],[(.ro [[(.int .i64 (0)),(.int .i64 (3)),(.int .i64 (0))]])]]))
theorem pf1:PFS Go.Proofs.Tryz.prog en1.1 en1.2.1 en1.2.2:=chk_ok (K:=KBB1) KBB1_ok (by kernel_rfl)
noncomputable def KBB2:Kn:=en1::KBB1
theorem KBB2_ok:KnOK KBB2:=KnOK.cons pf1 KBB1_ok
noncomputable def en2:Nat×List AV×AV:=(30,[(.agg [(.int .i64 (2)),(.int .i64 (1)),(.int .i64 (0)),(.ro [[(.int .i64 (0)),(.ro [[.bool false,(.int .i64 (0))],[.bool true,(.int .i64 (0))],[.bool false,(.int .i64 (1))]])],[(.int .i64 (0)),(.ro [])]])]),(.ro [[(.int .i64 (1))]])],(.ro [[(.ro [[(.int .i64 (0)),(.int .i64 (0)),(.int .i64 (0))],[(.int .i64 (1)),(.int .i64 (0)),(.int .i64 (0))]])],[(.ro [])]]))
theorem pf2:PFS Go.Proofs.Tryz.prog en2.1 en2.2.1 en2.2.2:=chk_ok (K:=KBB2) KBB2_ok (by kernel_rfl)
noncomputable def KBB3:Kn:=en2::KBB2
theorem KBB3_ok:KnOK KBB3:=KnOK.cons pf2 KBB2_ok
noncomputable def en3:Nat×List AV×AV:=(31,[(.agg [(.int .i64 (2)),(.int .i64 (1)),(.int .i64 (0)),(.ro [[(.int .i64 (0)),(.ro [[.bool false,(.int .i64 (0))],[.bool true,(.int .i64 (0))],[.bool false,(.int .i64 (1))]])],[(.int .i64 (0)),(.ro [])]])]),(.ro [[(.int .i64 (0))],[(.int .i64 (1))]])],(.tup [(.int .i64 (0)),(.int .u32 (0)),.bool false]))
theorem pf3:PFS Go.Proofs.Tryz.prog en3.1 en3.2.1 en3.2.2:=chk_ok (K:=KBB3) KBB3_ok (by kernel_rfl)
noncomputable def KBB4:Kn:=en3::KBB3
theorem KBB4_ok:KnOK KBB4:=KnOK.cons pf3 KBB3_ok
noncomputable def en4:Nat×List AV×AV:=(31,[(.agg [(.int .i64 (2)),(.int .i64 (1)),(.int .i64 (0)),(.ro [[(.int .i64 (0)),(.ro [[.bool false,(.int .i64 (0))],[.bool true,(.int .i64 (0))],[.bool false,(.int .i64 (1))]])],[(.int .i64 (0)),(.ro [])]])]),(.ro [[(.int .i64 (1))]])],(.tup [(.int .i64 (0)),(.int .u32 (65537)),.bool true]))
theorem pf4:PFS Go.Proofs.Tryz.prog en4.1 en4.2.1 en4.2.2:=chk_ok (K:=KBB4) KBB4_ok (by kernel_rfl)
noncomputable def KBB5:Kn:=en4::KBB4
theorem KBB5_ok:KnOK KBB5:=KnOK.cons pf4 KBB4_ok
noncomputable def en5:Nat×List AV×AV:=(102,[(.agg [(.int .i64 (2)),(.int .i64 (1)),(.int .i64 (0)),(.ro [[(.int .i64 (0)),(.ro [[.bool false,(.int .i64 (0))],[.bool true,(.int .i64 (0))],[.bool false,(.int .i64 (1))]])],[(.int .i64 (0)),(.ro [])]])]),(.ro [[(.int .i64 (1))]])],(.ro [[(.int .u32 (1)),(.int .u32 (0)),(.int .u32 (0)),(.int .u32 (0)),(.int .u32 (0)),(.int .u32 (0)),(.int .u32 (0)),(.int .u32 (0)),(.int .u32 (0)),(.int .u32 (0)),(.int .u32 (0)),(.int .u32 (0)),(.int .u32 (0)),(.int .u32 (0)),(.int .u32 (0)),(.int .u32 (0)),(.int .u32 (0)),(.int .u32 (0)),(.int .u32 (0)),(.int .u32 (0)),(.int .u32 (0)),(.int .u32 (0)),(.int .u32 (0)),(.int .u32 (0)),(.int .u32 (0))],[(.int .u32 (1)),(.int .u32 (0)),(.int .u32 (0)),(.int .u32 (0)),(.int .u32 (0)),(.int .u32 (0)),(.int .u32 (0)),(.int .u32 (0)),(.int .u32 (0)),(.int .u32 (0)),(.int .u32 (0)),(.int .u32 (0)),(.int .u32 (0)),(.int .u32 (0)),(.int .u32 (0)),(.int .u32 (0)),(.int .u32 (0)),(.int .u32 (0)),(.int .u32 (0)),(.int .u32 (0)),(.int .u32 (0)),(.int .u32 (0)),(.int .u32 (0)),(.int .u32 (0)),(.int .u32 (1))]]))
theorem pf5:PFS Go.Proofs.Tryz.prog en5.1 en5.2.1 en5.2.2:=chk_ok (K:=KBB5) KBB5_ok (by kernel_rfl)
noncomputable def KBB6:Kn:=en5::KBB5
theorem KBB6_ok:KnOK KBB6:=KnOK.cons pf5 KBB5_ok
noncomputable def en6:Nat×List AV×AV:=(102,[(.agg [(.int .i64 (2)),(.int .i64 (1)),(.int .i64 (0)),(.ro [[(.int .i64 (0)),(.ro [[.bool false,(.int .i64 (0))],[.bool true,(.int .i64 (0))],[.bool false,(.int .i64 (1))]])],[(.int .i64 (0)),(.ro [])]])]),(.ro [[(.int .i64 (0))],[(.int .i64 (1))]])],(.ro [[(.int .u32 (5)),(.int .u32 (0)),(.int .u32 (0)),(.int .u32 (0)),(.int .u32 (0)),(.int .u32 (0)),(.int .u32 (0)),(.int .u32 (0)),(.int .u32 (0)),(.int .u32 (0)),(.int .u32 (0)),(.int .u32 (0)),(.int .u32 (0)),(.int .u32 (0)),(.int .u32 (0)),(.int .u32 (0)),(.int .u32 (0)),(.int .u32 (0)),(.int .u32 (0)),(.int .u32 (0)),(.int .u32 (0)),(.int .u32 (0)),(.int .u32 (0)),(.int .u32 (0)),(.int .u32 (1))],[(.int .u32 (1)),(.int .u32 (0)),(.int .u32 (0)),(.int .u32 (0)),(.int .u32 (0)),(.int .u32 (0)),(.int .u32 (0)),(.int .u32 (0)),(.int .u32 (0)),(.int .u32 (0)),(.int .u32 (0)),(.int .u32 (0)),(.int .u32 (0)),(.int .u32 (0)),(.int .u32 (0)),(.int .u32 (0)),(.int .u32 (0)),(.int .u32 (0)),(.int .u32 (0)),(.int .u32 (0)),(.int .u32 (0)),(.int .u32 (0)),(.int .u32 (0)),(.int .u32 (0)),(.int .u32 (0))],[(.int .u32 (1)),(.int .u32 (0)),(.int .u32 (0)),(.int .u32 (0)),(.int .u32 (0)),(.int .u32 (0)),(.int .u32 (0)),(.int .u32 (0)),(.int .u32 (0)),(.int .u32 (0)),(.int .u32 (0)),(.int .u32 (0)),(.int .u32 (0)),(.int .u32 (0)),(.int .u32 (0)),(.int .u32 (0)),(.int .u32 (0)),(.int .u32 (0)),(.int .u32 (0)),(.int .u32 (0)),(.int .u32 (0)),(.int .u32 (0)),(.int .u32 (0)),(.int .u32 (0)),(.int .u32 (1))]]))
theorem pf6:PFS Go.Proofs.Tryz.prog en6.1 en6.2.1 en6.2.2:=chk_ok (K:=KBB6) KBB6_ok (by kernel_rfl)
end Go.Av
