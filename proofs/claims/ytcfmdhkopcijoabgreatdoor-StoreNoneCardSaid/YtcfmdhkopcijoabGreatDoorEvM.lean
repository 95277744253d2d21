import Derived.Test.YtcfmdhkopcijoabGreatDoorEvK
import Derived.Test.YtcfmdhkopcijoabGreatDoorEvL
import Derived.KernelRfl
set_option linter.all false
/-! Calls that are run ahead, 1. -/
namespace Go.Proofs.YtcfmdhkopcijoabGreatDoor
open Go Go.Ev

theorem g291 : chkAll E0 1000000 291 m291 = true := by kernel_rfl
theorem g109 : chkAll E0 1000000 109 m109 = true := by kernel_rfl
theorem g225 : chkAll E0 1000000 225 m225 = true := by kernel_rfl
theorem g227 : chkAll E0 1000000 227 m227 = true := by kernel_rfl
noncomputable def l1 : List (Nat × List ME) := [(291, m291), (109, m109), (225, m225), (227, m227)]
noncomputable def E1 : Env := { E0 with memo := memoT l1 }
theorem good1 : ∀ x ∈ l1, ∀ e ∈ x.2, MGood Tryz.prog x.1 e := by
  intro x hx
  simp only [l1, List.mem_cons, List.not_mem_nil, or_false] at hx
  rcases hx with rfl | rfl | rfl | rfl
  · exact chkAll_ok (ev_sound prog_ok mixed 1000000) g291
  · exact chkAll_ok (ev_sound prog_ok mixed 1000000) g109
  · exact chkAll_ok (ev_sound prog_ok mixed 1000000) g225
  · exact chkAll_ok (ev_sound prog_ok mixed 1000000) g227
end Go.Proofs.YtcfmdhkopcijoabGreatDoor
/-! Calls that are run ahead, 2. -/
namespace Go.Proofs.YtcfmdhkopcijoabGreatDoor
open Go Go.Ev

theorem g295 : chkAll E1 1000000 295 m295 = true := by kernel_rfl
theorem g222 : chkAll E1 1000000 222 m222 = true := by kernel_rfl
theorem g302 : chkAll E1 1000000 302 m302 = true := by kernel_rfl
noncomputable def l2 : List (Nat × List ME) := [(291, m291), (109, m109), (225, m225), (227, m227), (295, m295), (222, m222), (302, m302)]
noncomputable def E2 : Env := { E0 with memo := memoT l2 }
theorem good2 : ∀ x ∈ l2, ∀ e ∈ x.2, MGood Tryz.prog x.1 e := by
  intro x hx
  simp only [l2, List.mem_cons, List.not_mem_nil, or_false] at hx
  rcases hx with rfl | rfl | rfl | rfl | rfl | rfl | rfl
  · exact good1 (291, m291) (by simp [l1])
  · exact good1 (109, m109) (by simp [l1])
  · exact good1 (225, m225) (by simp [l1])
  · exact good1 (227, m227) (by simp [l1])
  · exact chkAll_ok (ev_sound (progOk_memo prog_ok l1 good1) mixed 1000000) g295
  · exact chkAll_ok (ev_sound (progOk_memo prog_ok l1 good1) mixed 1000000) g222
  · exact chkAll_ok (ev_sound (progOk_memo prog_ok l1 good1) mixed 1000000) g302
end Go.Proofs.YtcfmdhkopcijoabGreatDoor
