import Derived.Test.YtcfmdhkopcijoabGreatDoorEvN
import Derived.Test.YtcfmdhkopcijoabGreatDoorEvL
import Derived.KernelRfl
set_option linter.all false
/-! Calls that are run ahead, 5. -/
namespace Go.Proofs.YtcfmdhkopcijoabGreatDoor
open Go Go.Ev

theorem g39 : chkAll E4 1000000 39 m39 = true := by kernel_rfl
noncomputable def l5 : List (Nat × List ME) := [(291, m291), (109, m109), (225, m225), (227, m227), (295, m295), (222, m222), (302, m302), (159, m159), (156, m156), (245, m245), (172, m172), (298, m298), (39, m39)]
noncomputable def E5 : Env := { E0 with memo := memoT l5 }
theorem good5 : ∀ x ∈ l5, ∀ e ∈ x.2, MGood Tryz.prog x.1 e := by
  intro x hx
  simp only [l5, List.mem_cons, List.not_mem_nil, or_false] at hx
  rcases hx with rfl | rfl | rfl | rfl | rfl | rfl | rfl | rfl | rfl | rfl | rfl | rfl | rfl
  · exact good4 (291, m291) (by simp [l4])
  · exact good4 (109, m109) (by simp [l4])
  · exact good4 (225, m225) (by simp [l4])
  · exact good4 (227, m227) (by simp [l4])
  · exact good4 (295, m295) (by simp [l4])
  · exact good4 (222, m222) (by simp [l4])
  · exact good4 (302, m302) (by simp [l4])
  · exact good4 (159, m159) (by simp [l4])
  · exact good4 (156, m156) (by simp [l4])
  · exact good4 (245, m245) (by simp [l4])
  · exact good4 (172, m172) (by simp [l4])
  · exact good4 (298, m298) (by simp [l4])
  · exact chkAll_ok (ev_sound (progOk_memo prog_ok l4 good4) mixed 1000000) g39
end Go.Proofs.YtcfmdhkopcijoabGreatDoor
