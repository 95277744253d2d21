import Derived.Test.YtcfmdhkopcijoabGreatDoorEvQ
import Derived.Test.YtcfmdhkopcijoabGreatDoorEvP
import Derived.Test.YtcfmdhkopcijoabGreatDoorRows
import Derived.WalkKit
import Derived.ProofKit
import Derived.OpenShut
import Derived.Deep.DeepHandedRow
import Derived.Lib.LaidTab
import Derived.Shelf.Vars
set_option linter.all false
/-! The closed facts together. -/
namespace Go.Proofs.YtcfmdhkopcijoabGreatDoor
open Go
set_option maxRecDepth 100000
theorem closed : joinedFacts Tryz.prog 3 Tryz.f3 (OpenSpec.ofChange Rows.storeNoneSpec).bare Rows.storeNoneRow = true := (andT (andT (andT (andT (andT (andT (andT (andT (andT (andT (andT (andT (andT (andT (andT (andT (andT (andT (andT (andT (andT (andT (andT (andT (andT (andT (andT (andT (andT (andT (andT fact0 fact1) fact2) fact3) fact4) fact5) fact6) fact7) fact8) fact9) fact10) fact11) fact12) fact13) fact14) fact15) fact16) fact17) fact18) fact19) fact20) fact21) fact22) fact23) fact24) fact25) fact26) fact27) fact28) fact29) fact30) fact31)
end Go.Proofs.YtcfmdhkopcijoabGreatDoor
/-! The row and the card. -/
namespace Go.Proofs.YtcfmdhkopcijoabGreatDoor
open Go.ChangeShapes Go.WideShapes Go.ChangeAt Go.RowKit
open Go.ChangeMaps (open_string shut_string)
open Go Go.Ev

theorem rec_ok : RecOk Tryz.prog (ev E5 1000000) := ev_sound (progOk_memo prog_ok l5 good5) mixed 1000000
theorem val_of (r : R) (h : okTrue r = true) : ∃ h' nx', r = .val (.bool true) h' nx' := by
  unfold okTrue at h
  split at h
  · rename_i v h' nx'
    split at h
    · rename_i b; subst h; exact ⟨h', nx', rfl⟩
    · cases h
  · cases h
/-- What the law comes to, for every text and every world that has MaxLen's cell. -/
theorem law (s : ByteArray) (W : World) (hg : GlobW W) : Calls Tryz.prog 3 #[.string s] W fun e w' => e = .returned (.bool true) ∧ Ev.Grown W w' := by
  have hr := run
  rw [evF_eq] at hr
  obtain ⟨h', nx', hv⟩ := val_of _ hr
  have hc := rec_ok.2.2 3 [.sym 1] .nil 0 _ _ _ hv
  let ρ : Rho := ⟨fun _ => 0, fun _ => 0, fun _ => 0, fun _ => .string s, fun _ => rfl, fun _ => rfl⟩
  have H : HR ρ .nil 0 W := ⟨hg, fun b o h => (by rw [PT.get_nil] at h; cases h), fun b o h => (by rw [PT.get_nil] at h; cases h), fun b b' o o' h => (by rw [PT.get_nil] at h; cases h)⟩
  have ent := enter_of Tryz.func3 (by kernel_rfl) (by kernel_rfl) #[.string s] W
  have key : ∀ u w', ValOk ρ .nil 0 W (.bool true) h' nx' u w' → u = .bool true ∧ Ev.Grown W w' := by
    rintro u w' ⟨ρ', st, _, rfl⟩
    exact ⟨rfl, st.size, fun B hB => st.old B hB fun b hb => absurd hb live_nil, st.out⟩
  rcases hc ρ W H ⟨trivial, trivial⟩ with ⟨u, w', g1, _⟩ | ⟨_, g2⟩
  · have g1 : (callFunc 3 #[.string s]).run Tryz.prog W = .ok (.value u) w' := g1
    rw [ent] at g1; cases g1
  · have g2 : Calls Tryz.prog 3 #[.string s] W _ := g2
    refine Calls.mono g2 fun e w' he => ?_
    cases e with
    | returned u => obtain ⟨h1, h2⟩ := key u w' he; exact ⟨by rw [h1], h2⟩
    | panicked c => exact he.elim
    | outgrown => exact he.elim
theorem own : ownKnob Tryz.prog.godebug = none := by kernel_rfl
theorem glob_of {W : World} (h : W.ShapedOpen Tryz.prog) : GlobW W := by
  obtain ⟨m, hm⟩ := cell_of_shapedOpen_int (P := Tryz.prog) (g := 0) (t := 3) (zero := #[.int .i64 0]) h (of_decide_eq_true (by kernel_rfl)) (by kernel_rfl) rfl (by kernel_rfl) (by kernel_rfl) Tryz.underlying3
  obtain ⟨cs, h1, h2, _⟩ := h.1 0 #[.int .i64 0] 3 (of_decide_eq_true (by kernel_rfl)) (by kernel_rfl)
  have h2 : cs.size = 1 := h2
  simp [World.cell?, h1] at hm
  have : cs = #[.int .i64 m] := by
    apply Array.ext (by simp [h2])
    intro i hi hi'
    have : i = 0 := by omega
    subst this
    obtain ⟨_, hm2⟩ := Array.getElem?_eq_some_iff.1 hm
    simpa using hm2
  subst this
  exact ⟨m, 3, _, h1⟩
theorem kept_of_old {W W' : World} {may : MemPlace → Prop} (hg : Ev.Grown W W') : W.keptBut W' may := by
  refine ⟨hg.2.2.1, hg.2.2.2, fun i hi => ?_⟩
  rw [hg.2.1 i hi]
  cases W.heap[i]? with
  | none => rfl
  | some o => cases o <;> first | rfl | exact ⟨rfl, rfl, rfl, fun _ _ => rfl⟩ | exact .inr ⟨rfl, rfl⟩
theorem frozen_of_old {W W' : World} (hg : Ev.Grown W W') {a : Addr} (ha : a.block < W.heap.size) : W'.frozen? a = W.frozen? a := by
  unfold World.frozen?; rw [hg.2.1 _ ha]
theorem post_of_old {H : Type} {enc : TypeId × Value → H} {P : Program} {f : Func} {s : ChangeSpec} {apart fresh handsOn again : Bool} {W W' : World} {args : Array Value} {v : Value} {ds gs : List (DataW H)} {before pa pv : List MemPlace}
    (hW : DataW.Whole enc P f.params.toList s.vars apart W args.toList ds gs before)
    (hres : ∀ (b : Nat) (sp : Nat → Bool) (hd : Bool), DataW.TrodAll enc P W' b sp hd f.resultTypes.toList (v.resultList f.resultTypes.size) (s.fn H (ds ++ gs)).results [])
    (hargs : ∀ sp : Nat → Bool, (∀ p ∈ before, sp p.block = true) → DataW.TrodAll enc P W' 0 sp true f.params.toList args.toList (s.fn H (ds ++ gs)).args pa)
    (hvars : ∀ sp : Nat → Bool, (∀ p ∈ before, sp p.block = true) → DataW.TrodVars enc P W' sp s.vars (s.fn H (ds ++ gs)).vars pv)
    (hps : before = pa ++ pv) (hg : Ev.Grown W W')
    (hok : ∀ (j : Nat) (t : TypeId) (r : Value), f.resultTypes[j]? = some t → (v.resultList f.resultTypes.size)[j]? = some r → Value.okWide P W' .any 0 t r) :
    s.post enc P f apart fresh handsOn again W args v W' := by
  have hlt := hW.lt
  have hold : ∀ p ∈ before, (fun b => decide (b < W.heap.size)) p.block = true := fun p hp => by simpa using hW.lt p hp
  refine ⟨ds, gs, before, [], pa, pv, hW, hres _ _ _, hargs _ hold, hvars _ hold, World.keptBut_mono (fun p hp => ⟨hp, ?_⟩) (kept_of_old (may := (· ∈ before)) hg), fun _ => ?_⟩
  · rw [hps, List.mem_append] at hp
    exact Or.inr hp
  · obtain ⟨_, _, _, _, _, hz, hn⟩ := hW
    refine ⟨hok, _, _, ([] ++ pa) ++ pv, ⟨[] ++ pa, pv, trodAll_append (hargs _ (fun _ _ => rfl)) (hres _ _ _), hvars _ (fun _ _ => rfl), rfl, ?_, ?_⟩, ?_⟩
    · intro b off hp
      have hb : MemPlace.cell b off ∈ before := by rw [hps]; simpa using hp
      rw [frozen_of_old hg (hlt _ hb)]
      exact hz b off hb
    · intro ha
      have := hn ha
      rw [hps] at this
      simpa using this
    · intro p hp _
      rw [hps]
      simpa using hp
set_option maxRecDepth 100000 in
theorem contract (H : Type) (enc : TypeId × Value → H) (W : World) (base : Nat) (args : Array Value) (ds gs : List (DataW H)) (before : List MemPlace)
    (hval : ∀ (j : Nat) t v, Tryz.f3.params[j]? = some t → args[j]? = some v → Value.okWide Tryz.prog W .any base t v)
    (hW : DataW.Whole enc Tryz.prog Tryz.f3.params.toList Rows.storeNoneSpec.vars false W args.toList ds gs before) (hsh : W.ShapedOpen Tryz.prog) :
    Calls Tryz.prog 3 args W fun e W' => ∃ v, e = .returned v ∧ Rows.storeNoneSpec.post enc Tryz.prog Tryz.f3 false true false false W args v W' := by
  have hW' := hW
  obtain ⟨p, q, hA0, hV, rfl, hfz, hnd⟩ := hW
  have hA : DataW.TrodAll enc Tryz.prog W 0 (fun _ => true) true Tryz.f3.params.toList args.toList ds p := hA0
  rw [Tryz.params3] at hA hval
  obtain ⟨v0, vs0, d0, ds0, p0, q0, hargs, rfl, rfl, h0, r0⟩ := trodAll_cons hA
  obtain ⟨rfl, rfl, rfl⟩ := trodAll_nil r0
  obtain rfl : args = #[v0] := by cases args; simp_all
  obtain ⟨rfl, rfl⟩ := trodVars_none hV
  obtain ⟨s, rfl, rfl, rfl, ws⟩ := open_string Tryz.underlying9 (hval 0 9 v0 rfl rfl) h0
  clear hA0
  simp only [List.append_nil] at hW'
  refine (law s W (glob_of hsh)).mono fun e W' ⟨he, hg⟩ => ?_
  subst he
  exact ⟨_, rfl, post_of_old (pa := []) (pv := []) hW' (fun _ _ _ => trodAll_cons_mk (shut_bool Tryz.underlying4 _) trodAll_mk0) (fun _ _ => trodAll_cons_mk (shut_string Tryz.underlying9 ws) trodAll_mk0) (fun _ _ => rfl) rfl
    hg (ok_one (by kernel_rfl) rfl (okWide_bool_mk Tryz.underlying4 _))⟩
/-- A WORLD FOR THE WITNESS: the settled one, the tables holding what is laid. -/
def layIn (cs : Array Value) : Obj → Obj
  | .cells _ t frozen => .cells cs t frozen
  | o => o
def rangesCells : Array Value := #[.int .u8 128, .int .u8 191, .int .u8 160, .int .u8 191, .int .u8 128, .int .u8 159, .int .u8 144, .int .u8 191, .int .u8 128, .int .u8 143, .int .u8 0, .int .u8 0, .int .u8 0, .int .u8 0, .int .u8 0, .int .u8 0, .int .u8 0, .int .u8 0, .int .u8 0, .int .u8 0, .int .u8 0, .int .u8 0, .int .u8 0, .int .u8 0, .int .u8 0, .int .u8 0, .int .u8 0, .int .u8 0, .int .u8 0, .int .u8 0, .int .u8 0, .int .u8 0]
def firstCells8 : Array Value := (Go.Pinned.utf8FirstZ.map fun n => Value.int .u8 (Int.ofNat n)).toArray
noncomputable def laidWorld (os : Os) : World :=
  { World.holding Tryz.prog os ⟨#[], #[], []⟩ with heap := (((World.holding Tryz.prog os ⟨#[], #[], []⟩).heap.modify 2 (layIn rangesCells)).modify 1 (layIn firstCells8)) }
theorem laid_met (os : Os) : laidMet Tryz.prog Rows.storeNoneRow.laid ((laidWorld os).forCall (fun _ _ => 0) ⟨#[], #[.string ⟨#[]⟩], []⟩).memory :=
  laidMet_of_run' 8 (by kernel_rfl) (by kernel_rfl)
theorem reads (os : Os) {H : Type} (enc : TypeId × Value → H) : ∃ places, DataW.whole enc Tryz.prog ((laidWorld os).forCall (fun _ _ => 0) ⟨#[], #[.string ⟨#[]⟩], []⟩).memory Tryz.f3.params.toList Rows.storeNoneSpec.vars false #[Value.string ⟨#[]⟩].toList 8 = some ([.lit (.string [])], [], places) :=
  ⟨[], by kernel_rfl⟩
set_option maxRecDepth 100000 in
theorem lifted (os : Os) (started : os.Started) (H : Type) (enc : TypeId × Value → H) (F : Stop.Interp) :
    ReturnsInHanded {} Tryz.checked os 3 .any ((OpenSpec.ofChange Rows.storeNoneSpec).preRow enc Tryz.prog Tryz.f3 Rows.storeNoneRow.domain false Rows.storeNoneRow.laid) (((OpenSpec.ofChange Rows.storeNoneSpec).at F).post enc Tryz.prog Tryz.f3 false true false false) := by
  obtain ⟨places, hx⟩ := reads os enc
  refine returnsInHanded_of_row (C := Tryz.checked) (s := OpenSpec.ofChange Rows.storeNoneSpec) own started (by kernel_rfl) Tryz.func3
    (witness_row_at (enc := enc) (C := Tryz.checked) false (laidWorld os) #[.string ⟨#[]⟩] rfl (by kernel_rfl) (by kernel_rfl) (by kernel_rfl)
      (OpenSpec.preRow_of_cond 8 hx (by kernel_rfl) (fun k hk => by cases hk) (by kernel_rfl) (laid_met os))) ?_
  intro W base args ds gs before hval hW _ _ _ _ hsh _
  exact contract H enc W base args ds gs before hval hW hsh
theorem named3 : Tryz.prog.funcNamed "chancery/chancerylaw15.StoreNone" = some 3 := by kernel_rfl
theorem said : Rows.StoreNoneSaid :=
  OpenClaim.holds_of_cond 3 Tryz.f3 rfl rfl rfl rfl rfl rfl rfl ⟨rfl, rfl, rfl, rfl, rfl⟩ rfl rfl rfl rfl rfl named3 Tryz.func3 closed
    (of_decide_eq_true (by kernel_rfl)) (by unfold Func.isWrapper; first | (rw [if_pos (by decide +kernel)]; kernel_rfl) | (rw [if_neg (by decide +kernel)]; exact ⟨rfl, rfl⟩))
    (fun os started H enc _ F => by rw [OpenClaim.pre_eq_preRow]; exact lifted os started H enc F)
end Go.Proofs.YtcfmdhkopcijoabGreatDoor
