import Derived.Test.YtcfmdhkopcijoabGreatDoorEvM
import Derived.Test.YtcfmdhkopcijoabGreatDoorEvL
import Derived.KernelRfl
set_option linter.all false
/-! Calls that are run ahead, 3. -/
namespace Go.Proofs.YtcfmdhkopcijoabGreatDoor
open Go Go.Ev

theorem g159 : chkAll E2 1000000 159 m159 = true := by kernel_rfl
theorem g156 : chkAll E2 1000000 156 m156 = true := by kernel_rfl
theorem g245 : chkAll E2 1000000 245 m245 = true := by kernel_rfl
noncomputable def l3 : List (Nat × List ME) := [(291, m291), (109, m109), (225, m225), (227, m227), (295, m295), (222, m222), (302, m302), (159, m159), (156, m156), (245, m245)]
noncomputable def E3 : Env := { E0 with memo := memoT l3 }
theorem good3 : ∀ x ∈ l3, ∀ e ∈ x.2, MGood Tryz.prog x.1 e := by
  intro x hx
  simp only [l3, List.mem_cons, List.not_mem_nil, or_false] at hx
  rcases hx with rfl | rfl | rfl | rfl | rfl | rfl | rfl | rfl | rfl | rfl
  · exact good2 (291, m291) (by simp [l2])
  · exact good2 (109, m109) (by simp [l2])
  · exact good2 (225, m225) (by simp [l2])
  · exact good2 (227, m227) (by simp [l2])
  · exact good2 (295, m295) (by simp [l2])
  · exact good2 (222, m222) (by simp [l2])
  · exact good2 (302, m302) (by simp [l2])
  · exact chkAll_ok (ev_sound (progOk_memo prog_ok l2 good2) mixed 1000000) g159
  · exact chkAll_ok (ev_sound (progOk_memo prog_ok l2 good2) mixed 1000000) g156
  · exact chkAll_ok (ev_sound (progOk_memo prog_ok l2 good2) mixed 1000000) g245
end Go.Proofs.YtcfmdhkopcijoabGreatDoor
/-! Calls that are run ahead, 4. -/
namespace Go.Proofs.YtcfmdhkopcijoabGreatDoor
open Go Go.Ev

theorem g172 : chkAll E3 1000000 172 m172 = true := by kernel_rfl
theorem g298 : chkAll E3 1000000 298 m298 = true := by kernel_rfl
noncomputable def l4 : List (Nat × List ME) := [(291, m291), (109, m109), (225, m225), (227, m227), (295, m295), (222, m222), (302, m302), (159, m159), (156, m156), (245, m245), (172, m172), (298, m298)]
noncomputable def E4 : Env := { E0 with memo := memoT l4 }
theorem good4 : ∀ x ∈ l4, ∀ e ∈ x.2, MGood Tryz.prog x.1 e := by
  intro x hx
  simp only [l4, List.mem_cons, List.not_mem_nil, or_false] at hx
  rcases hx with rfl | rfl | rfl | rfl | rfl | rfl | rfl | rfl | rfl | rfl | rfl | rfl
  · exact good3 (291, m291) (by simp [l3])
  · exact good3 (109, m109) (by simp [l3])
  · exact good3 (225, m225) (by simp [l3])
  · exact good3 (227, m227) (by simp [l3])
  · exact good3 (295, m295) (by simp [l3])
  · exact good3 (222, m222) (by simp [l3])
  · exact good3 (302, m302) (by simp [l3])
  · exact good3 (159, m159) (by simp [l3])
  · exact good3 (156, m156) (by simp [l3])
  · exact good3 (245, m245) (by simp [l3])
  · exact chkAll_ok (ev_sound (progOk_memo prog_ok l3 good3) mixed 1000000) g172
  · exact chkAll_ok (ev_sound (progOk_memo prog_ok l3 good3) mixed 1000000) g298
end Go.Proofs.YtcfmdhkopcijoabGreatDoor
