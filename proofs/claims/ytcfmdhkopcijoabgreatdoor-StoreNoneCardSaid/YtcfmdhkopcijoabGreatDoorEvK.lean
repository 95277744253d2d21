import Derived.Shelf.Strings.Search1
import Derived.Shelf.Strings.Search2
import Derived.Shelf.Strings.Search3
import Derived.Test.YtcfmdhkopcijoabGreatDoorProg
import Derived.Test.YtcfmdhkopcijoabGreatDoorEvJ
import Derived.Tactics
import Derived.Tactics2
import Derived.Defers
import Derived.Recover
import Derived.Laws.Pointers
import Derived.KernelRfl
set_option linter.all false
namespace Go.Proofs
open Go.Shelf
def Tryz.lays219_ren : Go.Shelf.Ren := ⟨fun | 219 => 340 | 217 => 288 | 225 => 339 | 224 => 338 | 267 => 371 | 266 => 336 | 314 => 385 | n => n, fun | 9 => 9 | 3 => 3 | 4 => 4 | 5 => 5 | 46 => 218 | 146 => 420 | 51 => 310 | n => n, fun | 1 => 0 | n => n⟩
theorem Tryz.lays219 : Go.Proofs.Lays.n219 Tryz.prog Tryz.lays219_ren := {
  mixed := by kernel_rfl
  f217 := Tryz.func288.trans (congrArg some (by kernel_rfl))
  f219 := Tryz.func340.trans (congrArg some (by kernel_rfl))
  f224 := Tryz.func338.trans (congrArg some (by kernel_rfl))
  f225 := Tryz.func339.trans (congrArg some (by kernel_rfl))
  f266 := Tryz.func336.trans (congrArg some (by kernel_rfl))
  f267 := Tryz.func371.trans (congrArg some (by kernel_rfl))
  f314 := Tryz.func385.trans (congrArg some (by kernel_rfl))
  t3 := Tryz.underlying3
  a3 := Tryz.isAgg3
  z3 := Tryz.sizeOf3
  v3 := Tryz.zeroValue3
  t4 := Tryz.underlying4
  a4 := Tryz.isAgg4
  z4 := Tryz.sizeOf4
  v4 := Tryz.zeroValue4
  t5 := Tryz.underlying5
  a5 := Tryz.isAgg5
  z5 := Tryz.sizeOf5
  v5 := Tryz.zeroValue5
  t9 := Tryz.underlying9
  a9 := Tryz.isAgg9
  z9 := Tryz.sizeOf9
  v9 := Tryz.zeroValue9
  t46 := Tryz.underlying218
  a46 := Tryz.isAgg218
  z46 := Tryz.sizeOf218
  v46 := Tryz.zeroValue218
  t51 := Tryz.underlying310
  a51 := Tryz.isAgg310
  z51 := Tryz.sizeOf310
  v51 := Tryz.zeroValue310
  t146 := Tryz.underlying420
  a146 := Tryz.isAgg420
  z146 := Tryz.sizeOf420
  v146 := Tryz.zeroValue420
  g1 := by kernel_rfl }
end Go.Proofs
namespace Go.Proofs.YtcfmdhkopcijoabGreatDoor
open Go Go.Ev
theorem idle (args : Array Value) (w : World) :
    CallsD Tryz.prog 179 args .returning w fun e u' w' => e = .returned (.tuple #[]) ∧ u' = .returning ∧ w' = w := by
  refine callsD_of_wpS Tryz.func179 rfl fun c₀ cs hu => ?_
  have hT : 17 ≤ (args ++ Array.replicate (Tryz.f179.ntmps - args.size) undef).size := by rw [Tryz.ntmps179]; simp; omega
  generalize (args ++ Array.replicate (Tryz.f179.ntmps - args.size) undef) = T at hT
  have h5 : 5 < T.size := by omega
  have h2 : 2 < T.size := by omega
  have h6 : 6 < T.size := by omega
  have h7 : 7 < T.size := by omega
  apply wpS_seq
  apply wpS_region
  simp [wpOpsS, go_sem, recoverD, hu, Exit.thenS, h5]
  apply wpS_seq
  apply wpS_region
  simp [wpOpsS, go_sem, Exit.thenS, h2, h6, h7]
  refine wpS_cond (t := false) (by simp [Act.eval, h7]) ?_
  simp only [Bool.false_eq_true, if_false]
  refine wpS_of_wp (wp_skip ?_)
  cases c₀
  simp_all [bodyPostS, results, Tryz.results179]
theorem quiet : Quiet Tryz.prog 179 := fun args w =>
  ⟨enter_of Tryz.func179 (by kernel_rfl) (by kernel_rfl) args w,
   CallsD.mono (idle args w) fun e u w' ⟨h1, h2, h3⟩ => by subst h1 h2 h3; exact ⟨rfl, Grown.refl _⟩⟩
end Go.Proofs.YtcfmdhkopcijoabGreatDoor
/-! The environment of this program. -/
namespace Go.Proofs.YtcfmdhkopcijoabGreatDoor
open Go Go.Ev
noncomputable def E0 : Env := mkEnv Tryz.prog [7, 8, 26, 27, 29, 30, 58, 59, 62, 63, 67, 68, 81, 102, 103, 119, 120, 128, 129, 141, 142, 154, 155, 159, 160, 163, 164, 167, 168, 189, 190, 202, 203, 211, 212, 215, 216, 225, 226, 235, 236, 237, 238, 241, 242, 247, 248, 254, 255, 256, 257, 262, 263, 279, 280, 284, 285, 323, 324, 326, 327, 344, 345, 387, 388, 409, 410, 426, 427] [(119, 0, 120), (120, 0, 120), (202, 0, 120), (203, 0, 120)] 5 [(336, 1), (277, 2), (195, 3), (364, 4), (387, 5), (145, 6), (340, 7)] [179]
theorem env_ok : EnvOk E0 Tryz.prog := envOk_mk (by kernel_rfl) (by kernel_rfl) (by kernel_rfl) (by kernel_rfl)
theorem b1 : Bodyless Tryz.prog 336 Extern.BytealgIndexByte.indexByte := ⟨fun args w => run_callFunc_extern Tryz.func336 (by kernel_rfl) (by kernel_rfl) (by kernel_rfl) (by kernel_rfl) args w⟩
theorem b2 : Bodyless Tryz.prog 277 Extern.BytealgCompare.compare := ⟨fun args w => run_callFunc_extern Tryz.func277 (by kernel_rfl) (by kernel_rfl) (by kernel_rfl) (by kernel_rfl) args w⟩
theorem b3 : Bodyless Tryz.prog 195 Extern.AbiNoEscape.same := ⟨fun args w => run_callFunc_extern Tryz.func195 (by kernel_rfl) (by kernel_rfl) (by kernel_rfl) (by kernel_rfl) args w⟩
theorem b4 : ∃ ps t, Bodyless Tryz.prog 364 (Extern.BytealgMakeNoZero.makeNoZero ps #[t]) ∧ Tryz.prog.underlying t = some (.slice 5) :=
  ⟨#[3], 118, ⟨fun args w => run_callFunc_extern Tryz.func364 (by kernel_rfl) (by kernel_rfl) (by kernel_rfl) (by kernel_rfl) args w⟩, by kernel_rfl⟩
theorem b5 : Bodyless Tryz.prog 387 Extern.BytealgCount.count := ⟨fun args w => run_callFunc_extern Tryz.func387 (by kernel_rfl) (by kernel_rfl) (by kernel_rfl) (by kernel_rfl) args w⟩
theorem b6 : Bodyless Tryz.prog 145 Extern.MapsClone.clone := ⟨fun args w => run_callFunc_extern Tryz.func145 (by kernel_rfl) (by kernel_rfl) (by kernel_rfl) (by kernel_rfl) args w⟩
theorem enter7 (args : Array Value) (w : World) : (callFunc 340 args).run Tryz.prog w = .ok (.enter 340 args) w := enter_of Tryz.func340 (by kernel_rfl) (by kernel_rfl) args w
theorem prog_ok : ProgOk E0 Tryz.prog := progOk_mk env_ok (by kernel_rfl) (fun f hf => by
    simp only [List.mem_cons, List.not_mem_nil, or_false] at hf; subst hf; exact quiet)
  (fun x hx args h nx => by
    simp only [List.mem_cons, List.not_mem_nil, or_false] at hx
    rcases hx with rfl | rfl | rfl | rfl | rfl | rfl | rfl
    · exact ext1_ok b1 args h nx
    · exact ext2_ok b2 args h nx
    · exact ext3_ok b3 args h nx
    · obtain ⟨ps, t, hB, ht⟩ := b4; exact ext4_ok env_ok hB ht args h nx
    · exact ext5_ok b5 args h nx
    · exact ext6_ok b6 args h nx
    · exact ext7_ok enter7 (fun s sub m w hs hm => Any.stringslite_Index Tryz.lays219 s sub m w hs hm) args h nx)
theorem mixed : Tryz.prog.follows .mixedOrders = true := by kernel_rfl
end Go.Proofs.YtcfmdhkopcijoabGreatDoor
