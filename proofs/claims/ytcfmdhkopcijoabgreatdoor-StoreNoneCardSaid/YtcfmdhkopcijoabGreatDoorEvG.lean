import Derived.Test.YtcfmdhkopcijoabGreatDoorEvF
import Derived.Lib.Bytealg
import Derived.Lib.MakeNoZero
import Derived.Lib.IndexMore
set_option linter.all false
/-! THE EVALUATOR's SOUNDNESS, 33: a call with closed arguments, run ahead, is the same call wherever it comes up. -/
namespace Go.Ev
open Go

/-! shifted values -/
def shRho (nx : Nat) (ρ ρ1 : Rho) : Rho := ⟨fun x => if x < nx then ρ.ι x else ρ1.ι (x - nx), fun x => if x < nx then ρ.β x else ρ1.β (x - nx), fun x => if x < nx then ρ.sz x else ρ1.sz (x - nx), ρ1.sym, ρ1.one, fun x => by show (if x < nx then ρ.β x else ρ1.β (x - nx)) = 0; split; exact ρ.zero _; exact ρ1.zero _⟩
theorem shRho_ι (nx : Nat) (ρ ρ1 : Rho) (b : Nat) : (shRho nx ρ ρ1).ι (b + nx) = ρ1.ι b := by show (if b + nx < nx then _ else _) = _; rw [if_neg (by omega), Nat.add_sub_cancel]
theorem shRho_β (nx : Nat) (ρ ρ1 : Rho) (b : Nat) : (shRho nx ρ ρ1).β (b + nx) = ρ1.β b := by show (if b + nx < nx then _ else _) = _; rw [if_neg (by omega), Nat.add_sub_cancel]
theorem shRho_sz (nx : Nat) (ρ ρ1 : Rho) (b : Nat) : (shRho nx ρ ρ1).sz (b + nx) = ρ1.sz b := by show (if b + nx < nx then _ else _) = _; rw [if_neg (by omega), Nat.add_sub_cancel]
theorem shRho_at (nx : Nat) (ρ ρ1 : Rho) (b o : Nat) : (shRho nx ρ ρ1).at (b + nx) o = ρ1.at b o := by unfold Rho.at; rw [shRho_ι, shRho_β]
theorem shRho_cap (nx : Nat) (ρ ρ1 : Rho) (b o z : Nat) : (shRho nx ρ ρ1).cap (b + nx) o z = ρ1.cap b o z := by unfold Rho.cap; rw [shRho_sz, shRho_β]
theorem shRho_ext {nx : Nat} {ρ ρ1 : Rho} (hs : ρ1.sym = ρ.sym) : Ext nx ρ (shRho nx ρ ρ1) :=
  ⟨fun b hb => by show (if b < nx then _ else _) = _; rw [if_pos hb], fun b hb => by show (if b < nx then _ else _) = _; rw [if_pos hb], fun b hb => by show (if b < nx then _ else _) = _; rw [if_pos hb], hs⟩
mutual
theorem conc_sh (nx : Nat) (ρ ρ1 : Rho) : ∀ v, conc (shRho nx ρ ρ1) (shV nx v) = conc ρ1 v
  | .ptr b o => by simp only [shV, conc]; rw [show Nat.add b nx = b + nx from rfl, shRho_at]
  | .slice b o l c => by simp only [shV, conc]; rw [show Nat.add b nx = b + nx from rfl, shRho_at]
  | .sliceU b o l z => by simp only [shV, conc]; rw [show Nat.add b nx = b + nx from rfl, shRho_at, shRho_cap]
  | .sliceZ b o l z => by simp only [shV, conc]; rw [show Nat.add b nx = b + nx from rfl, shRho_at, shRho_at, shRho_cap]
  | .map r => by simp only [shV, conc]; rw [show Nat.add r nx = r + nx from rfl, shRho_ι]
  | .func f a b => by simp only [shV, conc]; rw [concs_sh nx ρ ρ1 a, concs_sh nx ρ ρ1 b]
  | .iface t v => by simp only [shV, conc]; rw [conc_sh nx ρ ρ1 v]
  | .agg cs => by simp only [shV, conc]; rw [concs_sh nx ρ ρ1 cs]
  | .tuple vs => by simp only [shV, conc]; rw [concs_sh nx ρ ρ1 vs]
  | .bool b => by simp only [shV, conc]
  | .int t n => by simp only [shV, conc]
  | .str l n => by simp only [shV, conc]
  | .nilPtr => by simp only [shV, conc]
  | .nilSlice => by simp only [shV, conc]
  | .nilMap => by simp only [shV, conc]
  | .nilFunc => by simp only [shV, conc]
  | .nilIface => by simp only [shV, conc]
  | .sym i => by simp only [shV, conc]; rfl
theorem concs_sh (nx : Nat) (ρ ρ1 : Rho) : ∀ l, concs (shRho nx ρ ρ1) (shVs nx l) = concs ρ1 l
  | [] => by simp only [shVs, concs]
  | x :: l => by simp only [shVs, concs]; rw [conc_sh nx ρ ρ1 x, concs_sh nx ρ ρ1 l]
end
mutual
theorem Sc_sh (nx m : Nat) : ∀ v, Sc m v → Sc (nx + m) (shV nx v)
  | .ptr b o, h => by simp only [shV, Sc] at h ⊢; show b + nx < _; omega
  | .slice b o l c, h => by simp only [shV, Sc] at h ⊢; show b + nx < _; omega
  | .sliceU b o l z, h => by simp only [shV, Sc] at h ⊢; show b + nx < _; omega
  | .sliceZ b o l z, h => by simp only [shV, Sc] at h ⊢; show b + nx < _; omega
  | .map r, h => by simp only [shV, Sc] at h ⊢; show r + nx < _; omega
  | .func f a b, h => by simp only [shV, Sc] at h ⊢; exact ⟨Scs_sh nx m a h.1, Scs_sh nx m b h.2⟩
  | .iface t v, h => by simp only [shV, Sc] at h ⊢; exact Sc_sh nx m v h
  | .agg cs, h => by simp only [shV, Sc] at h ⊢; exact Scs_sh nx m cs h
  | .tuple vs, h => by simp only [shV, Sc] at h ⊢; exact Scs_sh nx m vs h
  | .bool b, h => by simp only [shV, Sc]
  | .int t n, h => by simp only [shV, Sc]
  | .str l n, h => by simp only [shV, Sc]
  | .nilPtr, h => by simp only [shV, Sc]
  | .nilSlice, h => by simp only [shV, Sc]
  | .nilMap, h => by simp only [shV, Sc]
  | .nilFunc, h => by simp only [shV, Sc]
  | .nilIface, h => by simp only [shV, Sc]
  | .sym i, h => by simp only [shV, Sc]
theorem Scs_sh (nx m : Nat) : ∀ l, Scs m l → Scs (nx + m) (shVs nx l)
  | [], h => by simp only [shVs, Scs]
  | x :: l, h => by simp only [shVs, Scs] at h ⊢; exact ⟨Sc_sh nx m x h.1, Scs_sh nx m l h.2⟩
end
theorem shVs_length (nx : Nat) : ∀ l, (shVs nx l).length = l.length
  | [] => by simp [shVs]
  | x :: l => by simp [shVs, shVs_length nx l]
theorem shVs_get (nx : Nat) : ∀ (l : List AV) (i : Nat), (shVs nx l)[i]? = (l[i]?).map (shV nx)
  | [], i => by simp [shVs]
  | x :: l, 0 => by simp [shVs]
  | x :: l, i + 1 => by simp only [shVs, List.getElem?_cons_succ]; exact shVs_get nx l i
mutual
theorem shV_zero : ∀ v, shV 0 v = v
  | .ptr b o => by simp [shV]
  | .slice b o l c => by simp [shV]
  | .sliceU b o l z => by simp [shV]
  | .sliceZ b o l z => by simp [shV]
  | .map r => by simp [shV]
  | .func f a b => by simp only [shV]; rw [shVs_zero a, shVs_zero b]
  | .iface t v => by simp only [shV]; rw [shV_zero v]
  | .agg cs => by simp only [shV]; rw [shVs_zero cs]
  | .tuple vs => by simp only [shV]; rw [shVs_zero vs]
  | .bool b => by simp only [shV]
  | .int t n => by simp only [shV]
  | .str l n => by simp only [shV]
  | .nilPtr => by simp only [shV]
  | .nilSlice => by simp only [shV]
  | .nilMap => by simp only [shV]
  | .nilFunc => by simp only [shV]
  | .nilIface => by simp only [shV]
  | .sym i => by simp only [shV]
theorem shVs_zero : ∀ l, shVs 0 l = l
  | [] => by simp only [shVs]
  | x :: l => by simp only [shVs]; rw [shV_zero x, shVs_zero l]
end
theorem pairsT_get (k i : Nat) : ∀ ps, (pairsT k ps).get i = ((pairsT 0 ps).get i).map (shV k)
  | [] => by simp [pairsT]
  | x :: l => by
    simp only [pairsT, PT.get_set]
    by_cases h : x.1 = i
    · simp [h, shV_zero]
    · simp only [h, if_false]; exact pairsT_get k i l
theorem shEs_map (k : Nat) : ∀ es, shEs k es = es.map fun e => (shV k e.1, shV k e.2.1, e.2.2)
  | [] => rfl
  | e :: l => by simp [shEs, shEs_map k l]
theorem addBs_get (k x : Nat) (h : Hp) : ∀ bs, (addBs k h bs).get x = if k ≤ x then (match (bs.find? fun e => e.1 == x - k) with | some e => some (mbO k e.2) | none => h.get x) else h.get x
  | [] => by simp [addBs]
  | e :: l => by
    simp only [addBs, PT.get_set]
    have ih := addBs_get k x h l
    by_cases hx : k ≤ x
    · rw [if_pos hx] at ih ⊢
      by_cases he : e.1 + k = x
      · have : (e.1 == x - k) = true := by simp; omega
        rw [if_pos (show Nat.add e.1 k = x from he), List.find?_cons, this]
      · have : (e.1 == x - k) = false := by simp; omega
        rw [if_neg (show ¬ Nat.add e.1 k = x from he), List.find?_cons, this, ih]
    · rw [if_neg hx] at ih ⊢
      rw [if_neg (show ¬ Nat.add e.1 k = x from fun h => hx (by have : e.1 + k = x := h; omega)), ih]
theorem cellAt_sh (k n : Nat) (dz : List AV) (ps : List (Nat × AV)) (i : Nat) : cellAt (shVs k dz) (pairsT k ps) i = (cellAt dz (pairsT 0 ps) i).map (shV k) := by
  unfold cellAt
  rw [pairsT_get k i ps]
  cases (pairsT 0 ps).get i with
  | some v => rfl
  | none =>
    simp only [Option.map_none, nth_eq, len_eq]
    rw [shVs_length, shVs_get]
theorem ORel_sh {ρ ρ1 : Rho} {nx m b : Nat} {w : World} {o : MB} (h : ORel ρ1 m b (mbO 0 o) w) : ORel (shRho nx ρ ρ1) (nx + m) (b + nx) (mbO nx o) w := by
  cases o with
  | cells n dz ps fz e =>
    simp only [mbO, shVs_zero] at h ⊢
    obtain ⟨c, fr, h1, h2, h3, h4, h5⟩ := h
    refine ⟨c, fr, by rw [shRho_ι]; exact h1, by rw [shRho_sz]; exact h2, by rw [shRho_β]; exact h3, by rw [shRho_β]; exact h4, fun i v hi hv => ?_⟩
    rw [cellAt_sh nx n] at hv
    cases hc : cellAt dz (pairsT 0 ps) i with
    | none => rw [hc] at hv; cases hv
    | some u =>
      rw [hc] at hv
      cases hv
      obtain ⟨g1, g2⟩ := h5 i u hi hc
      exact ⟨Sc_sh nx m u g1, by rw [shRho_β, conc_sh]; exact g2⟩
  | map es c =>
    simp only [mbO] at h ⊢
    have e0 : shEs 0 es = es := by rw [shEs_map]; simp [shV_zero]
    rw [e0] at h
    obtain ⟨h1, h2⟩ := h
    refine ⟨fun e he => ?_, ?_⟩
    · rw [shEs_map] at he
      obtain ⟨e', he', rfl⟩ := List.mem_map.1 he
      exact ⟨Sc_sh nx m _ (h1 e' he').1, Sc_sh nx m _ (h1 e' he').2⟩
    · rw [shRho_ι, h2, shEs_map, List.map_map]
      congr 2
      refine congrArg List.toArray (List.map_congr_left fun e he => ?_)
      simp only [Function.comp, centry, conc_sh]
/-! the memo's law -/
theorem HR.none {ρ : Rho} {h : Hp} {nx : Nat} {w : World} (H : HR ρ h nx w) (nx' : Nat) : HR ρ .nil nx' w := ⟨H.glob, fun b o h => (by rw [PT.get_nil] at h; cases h), fun b o h => (by rw [PT.get_nil] at h; cases h), fun b b' o o' h => (by rw [PT.get_nil] at h; cases h)⟩
theorem live_nil {b : Nat} : ¬ Live .nil b := fun ⟨o, h⟩ => by rw [PT.get_nil] at h; cases h
theorem memo_frame {P : Program} {f : Nat} {args : List AV} {v : AV} {bs : List (Nat × MB)} {m : Nat} (hargs : Scs 0 args) (hc : CallOk P f args .nil 0 (.val v (addBs 0 .nil bs) m)) (h : Hp) (nx : Nat) :
    CallOk P f args h nx (.val (shV nx v) (addBs nx h bs) (nx + m)) := by
  intro v1 h1 nx1 e ρ w H _
  cases e
  have key : ∀ u w', ValOk ρ .nil 0 w v (addBs 0 .nil bs) m u w' → ValOk ρ h nx w (shV nx v) (addBs nx h bs) (nx + m) u w' := by
    rintro u w' ⟨ρ1, s, hv, rfl⟩
    have hold : ∀ B, B < w.heap.size → w'.heap[B]? = w.heap[B]? := fun B hB => s.old B hB fun b hb => absurd hb live_nil
    have hnew : ∀ b, Live (addBs 0 .nil bs) b → w.heap.size ≤ ρ1.ι b := fun b hb => by
      rcases s.new b hb with h | ⟨b', h, _⟩
      · exact h
      · exact absurd h live_nil
    have hext : Ext nx ρ (shRho nx ρ ρ1) := shRho_ext s.ext.sym
    have hget : ∀ b o, (addBs nx h bs).get b = some o → (b < nx ∧ h.get b = some o) ∨ ∃ b0 q, b = b0 + nx ∧ (addBs 0 .nil bs).get b0 = some (mbO 0 q) ∧ o = mbO nx q := by
      intro b o hb
      rw [addBs_get] at hb
      by_cases hx : nx ≤ b
      · rw [if_pos hx] at hb
        cases hf : bs.find? fun e => e.1 == b - nx with
        | none =>
          rw [hf] at hb
          exact .inl ⟨(H.obj b o hb).1, hb⟩
        | some e =>
          rw [hf] at hb
          cases hb
          refine .inr ⟨b - nx, e.2, by omega, ?_, rfl⟩
          rw [addBs_get, if_pos (Nat.zero_le _), Nat.sub_zero, hf]
      · rw [if_neg hx] at hb
        exact .inl ⟨by omega, hb⟩
    refine ⟨shRho nx ρ ρ1, ⟨Nat.le_add_right _ _, hext, ⟨s.hr.glob, fun b o hb => ?_, fun b o hb => ?_, fun b b' o o' hb hb' e => ?_⟩, s.size, fun B hB _ => hold B hB, fun b hb => ?_, s.out⟩, Sc_sh nx m v hv, (conc_sh nx ρ ρ1 v).symm⟩
    · rcases hget b o hb with ⟨h1, h2⟩ | ⟨b0, q, rfl, h2, rfl⟩
      · rw [hext.ι b h1]; exact H.away b o h2
      · rw [shRho_ι]; have := hnew b0 ⟨_, h2⟩; have := H.glob.lt; omega
    · rcases hget b o hb with ⟨h1, h2⟩ | ⟨b0, q, rfl, h2, rfl⟩
      · exact ⟨by omega, (H.obj b o h2).2.keep h1 (Nat.le_add_right _ _) hext (hold _ (H.obj b o h2).2.lt)⟩
      · obtain ⟨g1, g2⟩ := s.hr.obj b0 _ h2
        exact ⟨by omega, ORel_sh g2⟩
    · rcases hget b o hb with ⟨h1, h2⟩ | ⟨b0, q, rfl, h2, rfl⟩ <;> rcases hget b' o' hb' with ⟨h1', h2'⟩ | ⟨b0', q', rfl, h2', rfl⟩
      · rw [hext.ι b h1, hext.ι b' h1'] at e
        exact H.inj b b' o o' h2 h2' e
      · rw [hext.ι b h1, shRho_ι] at e
        have := (H.obj b o h2).2.lt
        have := hnew b0' ⟨_, h2'⟩
        omega
      · rw [hext.ι b' h1', shRho_ι] at e
        have := (H.obj b' o' h2').2.lt
        have := hnew b0 ⟨_, h2⟩
        omega
      · rw [shRho_ι, shRho_ι] at e
        rw [s.hr.inj b0 b0' _ _ h2 h2' e]
    · obtain ⟨o, hb⟩ := hb
      rcases hget b o hb with ⟨h1, h2⟩ | ⟨b0, q, rfl, h2, rfl⟩
      · exact .inr ⟨b, ⟨o, h2⟩, hext.ι b h1⟩
      · exact .inl (by rw [shRho_ι]; exact hnew b0 ⟨_, h2⟩)
  rcases hc _ _ _ rfl ρ w (HR.none H 0) hargs with ⟨u, w', g1, g2⟩ | ⟨g1, g2⟩
  · exact .inl ⟨u, w', g1, key u w' g2⟩
  · refine .inr ⟨g1, Calls.mono g2 fun e w' he => ?_⟩
    cases e with
    | returned u => exact key u w' he
    | panicked c => exact he
    | outgrown => exact he
/-- Fewer blocks behind a call. -/
theorem CallOk.sub {P : Program} {f : Nat} {args : List AV} {h h1 h2 : Hp} {nx nx1 nx2 : Nat} {v : AV} (hc : CallOk P f args h nx (.val v h1 nx1)) (hs : ∀ b o, h2.get b = some o → h1.get b = some o) (hnx : nx1 = nx2) :
    CallOk P f args h nx (.val v h2 nx2) := by
  subst hnx
  intro v0 h0 nx0 e ρ w H ha
  cases e
  have key : ∀ u w', ValOk ρ h nx w v h1 nx1 u w' → ValOk ρ h nx w v h2 nx1 u w' := by
    rintro u w' ⟨ρ1, s, hv, rfl⟩
    exact ⟨ρ1, ⟨s.le, s.ext, s.hr.sub hs, s.size, s.old, fun b ⟨o, hb⟩ => s.new b ⟨o, hs b o hb⟩, s.out⟩, hv, rfl⟩
  rcases hc _ _ _ rfl ρ w H ha with ⟨u, w', g1, g2⟩ | ⟨g1, g2⟩
  · exact .inl ⟨u, w', g1, key u w' g2⟩
  · refine .inr ⟨g1, Calls.mono g2 fun e w' he => ?_⟩
    cases e with
    | returned u => exact key u w' he
    | panicked c => exact he
    | outgrown => exact he
/-- A value that names no block: nothing is left behind. -/
theorem CallOk.drop {P : Program} {f : Nat} {args : List AV} {h1 : Hp} {nx1 : Nat} {v : AV} (hc : CallOk P f args .nil 0 (.val v h1 nx1)) (hv : Sc 0 v) : CallOk P f args .nil 0 (.val v .nil 0) := by
  intro v0 h0 nx0 e ρ w H ha
  cases e
  have key : ∀ u w', ValOk ρ .nil 0 w v h1 nx1 u w' → ValOk ρ .nil 0 w v .nil 0 u w' := by
    rintro u w' ⟨ρ1, s, _, rfl⟩
    refine ⟨ρ, (Step.refl H).grown ⟨s.size, fun B hB => s.old B hB fun b hb => absurd hb live_nil, s.out⟩, hv, ?_⟩
    exact conc_ext s.ext v hv
  rcases hc _ _ _ rfl ρ w H ha with ⟨u, w', g1, g2⟩ | ⟨g1, g2⟩
  · exact .inl ⟨u, w', g1, key u w' g2⟩
  · refine .inr ⟨g1, Calls.mono g2 fun e w' he => ?_⟩
    cases e with
    | returned u => exact key u w' he
    | panicked c => exact he
    | outgrown => exact he
end Go.Ev
/-! THE EVALUATOR's SOUNDNESS, 34: functions without a body. -/
namespace Go.Ev
open Go
structure Bodyless (P : Program) (f : Nat) (e : Array Value → Sem Value) : Prop where
  ok : ∀ args w, (callFunc f args).run P w = ((e args).run P w).andThen fun v w' => .ok (.value v) w'
section
variable {E : Env} {P : Program} {f : Nat}
/-- A call that comes to a value at once. -/
theorem callOk_now {e : Array Value → Sem Value} (hB : Bodyless P f e) {args : List AV} {h : Hp} {nx : Nat} {v : AV} {h' : Hp} {nx' : Nat}
    (hk : ∀ ρ w, HR ρ h nx w → Scs nx args → ∃ u w', (e (concs ρ args).toArray).run P w = .ok u w' ∧ ValOk ρ h nx w v h' nx' u w') : CallOk P f args h nx (.val v h' nx') := by
  intro v1 h1 nx1 he ρ w H ha
  cases he
  obtain ⟨u, w', g1, g2⟩ := hk ρ w H ha
  exact .inl ⟨u, w', by rw [hB.ok, g1]; rfl, g2⟩
theorem callOk_fail {args : List AV} {h : Hp} {nx : Nat} {y : String} : CallOk P f args h nx (.fail y) := fun v h' nx' e => by cases e
theorem valOk_pure {ρ : Rho} {h : Hp} {nx : Nat} {w : World} {v : AV} (H : HR ρ h nx w) (hv : Sc nx v) : ValOk ρ h nx w v h nx (conc ρ v) w := ⟨ρ, Step.refl H, hv, rfl⟩
theorem ofNat_beq {a c : Nat} (hc : c < 256) : (UInt8.ofNat (a % 256) == c.toUInt8) = Nat.beq (a % 256) c := by
  rw [Bool.eq_iff_iff]
  simp only [beq_iff_eq, Nat.beq_eq_true_eq]
  constructor
  · intro h
    have := congrArg UInt8.toNat h
    simp [Nat.mod_eq_of_lt hc] at this
    simpa using this
  · intro h; rw [Nat.eq_of_beq_eq_true h]
theorem findByte_eq (n c : Nat) (hc : c < 256) : ∀ (k i : Nat), Lib.indexByte (bytesL k (n / 256 ^ i)) c.toUInt8 = (match findByte n c k i with | some j => ((j : Int) - i) | none => -1) ∧ ∀ j, findByte n c k i = some j → i ≤ j
  | 0, i => ⟨rfl, fun j h => by cases h⟩
  | k + 1, i => by
    obtain ⟨ih, ihl⟩ := findByte_eq n c hc k (i + 1)
    have hd : n / 256 ^ i / 256 = n / 256 ^ (i + 1) := by rw [Nat.div_div_eq_div_mul, Nat.pow_succ]
    have hb : byteAt n i = n / 256 ^ i % 256 := rfl
    have e1 : findByte n c (k + 1) i = (match Nat.beq (byteAt n i) c with | true => some i | false => findByte n c k (i + 1)) := rfl
    have e2 : Lib.indexByte (bytesL (k + 1) (n / 256 ^ i)) c.toUInt8 = if (UInt8.ofNat (n / 256 ^ i % 256) == c.toUInt8) then 0 else if Lib.indexByte (bytesL k (n / 256 ^ i / 256)) c.toUInt8 == -1 then -1 else Lib.indexByte (bytesL k (n / 256 ^ i / 256)) c.toUInt8 + 1 := rfl
    rw [e1, e2, ofNat_beq hc, hb, hd]
    cases hq : Nat.beq (n / 256 ^ i % 256) c with
    | true => exact ⟨by simp, fun j h => by cases h; exact Nat.le_refl _⟩
    | false =>
      simp only [Bool.false_eq_true, if_false]
      rw [ih]
      cases hf : findByte n c k (i + 1) with
      | none => exact ⟨rfl, fun j h => by cases h⟩
      | some j =>
        have hj := ihl j hf
        have hne : (((j : Int) - ((i + 1 : Nat) : Int)) == -1) = false := by rw [beq_eq_false_iff_ne]; omega
        simp only [hne, Bool.false_eq_true, if_false]
        exact ⟨by omega, fun j' h => by cases h; omega⟩
theorem ext1_ok (hB : Bodyless P f Extern.BytealgIndexByte.indexByte) (args : List AV) (h : Hp) (nx : Nat) : CallOk P f args h nx (extern E 1 args h nx) := by
  unfold extern
  split <;> first | exact callOk_fail | skip
  all_goals (first | (rename_i heq _; cases heq; done) | (rename_i heq; cases heq; done) | skip)
  rename_i l n c _
  cases hc : Nat.blt c 256 with
  | false => exact callOk_fail
  | true =>
    have hc : c < 256 := Nat.le_of_ble_eq_true hc
    refine callOk_now hB fun ρ w H _ => ⟨_, w, Lib.run_indexByteString (P := P) (toBA l n) c w, ?_⟩
    have := (findByte_eq n c hc l 0).1
    simp only [Nat.pow_zero, Nat.div_one] at this
    have e : (.int .i64 (Lib.indexByte (toBA l n).data.toList (c : Int).toNat.toUInt8) : Value) = conc ρ (iOpt (findByte n c l 0)) := by
      show Value.int .i64 (Lib.indexByte (bytesL l n) c.toUInt8) = _
      rw [this]
      cases findByte n c l 0 with
      | none => simp [iOpt, conc]
      | some j => simp [iOpt, conc, rI]
    rw [e]
    exact valOk_pure H (by unfold iOpt; split <;> trivial)
theorem countByte_eq (c : Nat) (hc : c < 256) : ∀ (l n k : Nat), countByte n c l k = k + Lib.countByte (bytesL l n) c.toUInt8
  | 0, n, k => by simp [countByte, bytesL, Lib.countByte]
  | l + 1, n, k => by
    have e1 : countByte n c (l + 1) k = (match Nat.beq (n % 256) c with | true => countByte (n / 256) c l (k + 1) | false => countByte (n / 256) c l k) := rfl
    have e2 : Lib.countByte (bytesL (l + 1) n) c.toUInt8 = Lib.countByte (bytesL l (n / 256)) c.toUInt8 + if (UInt8.ofNat (n % 256) == c.toUInt8) then 1 else 0 := by
      unfold Lib.countByte; simp only [bytesL]; rw [List.count_cons]
    rw [e1, e2, ofNat_beq hc]
    cases Nat.beq (n % 256) c with
    | true => simp only [if_true]; rw [countByte_eq c hc l]; omega
    | false => simp only [Bool.false_eq_true, if_false]; rw [countByte_eq c hc l]; omega
theorem ext5_ok (hB : Bodyless P f Extern.BytealgCount.count) (args : List AV) (h : Hp) (nx : Nat) : CallOk P f args h nx (extern E 5 args h nx) := by
  unfold extern
  split <;> first | exact callOk_fail | skip
  all_goals (first | (rename_i heq _; cases heq; done) | (rename_i heq; cases heq; done) | skip)
  rename_i l n c _
  cases hc : Nat.blt c 256 with
  | false => exact callOk_fail
  | true =>
    have hc : c < 256 := Nat.le_of_ble_eq_true hc
    refine callOk_now hB fun ρ w H _ => ⟨_, w, Lib.run_countString (P := P) (toBA l n) c w, ?_⟩
    have e : (.int .i64 ((Lib.countByte (toBA l n).data.toList (c : Int).toNat.toUInt8 : Nat) : Int) : Value) = conc ρ (rI (countByte n c l 0)) := by
      rw [countByte_eq c hc]
      simp [rI, conc]
      try rfl
    rw [e]
    exact valOk_pure H trivial
theorem ofNat_lt {a b : Nat} : (UInt8.ofNat (a % 256) < UInt8.ofNat (b % 256)) ↔ a % 256 < b % 256 := by
  rw [UInt8.lt_iff_toNat_lt]; simp
theorem cmp_less : ∀ (k l n l' n' : Nat), l < k → (Lib.compareBytes (bytesL l n) (bytesL l' n') = -1 ↔ strLess k l n l' n' = true)
  | 0, l, n, l', n', h => by omega
  | k + 1, 0, n, 0, n', h => by simp [bytesL, Lib.compareBytes, strLess]
  | k + 1, 0, n, l' + 1, n', h => by simp [bytesL, Lib.compareBytes, strLess]
  | k + 1, l + 1, n, 0, n', h => by simp [bytesL, Lib.compareBytes, strLess]
  | k + 1, l + 1, n, l' + 1, n', h => by
    have ih := cmp_less k l (n / 256) l' (n' / 256) (by omega)
    have e1 : strLess (k + 1) (l + 1) n (l' + 1) n' = (match Nat.blt (n % 256) (n' % 256) with | true => true | false => match Nat.beq (n % 256) (n' % 256) with | true => strLess k l (n / 256) l' (n' / 256) | false => false) := rfl
    have e2 : Lib.compareBytes (bytesL (l + 1) n) (bytesL (l' + 1) n') = if UInt8.ofNat (n % 256) < UInt8.ofNat (n' % 256) then -1 else if UInt8.ofNat (n' % 256) < UInt8.ofNat (n % 256) then 1 else Lib.compareBytes (bytesL l (n / 256)) (bytesL l' (n' / 256)) := rfl
    rw [e1, e2]
    rcases Nat.lt_trichotomy (n % 256) (n' % 256) with hlt | heq | hgt
    · rw [if_pos (ofNat_lt.2 hlt), show Nat.blt (n % 256) (n' % 256) = true from Nat.ble_eq_true_of_le hlt]
      simp
    · have : Nat.blt (n % 256) (n' % 256) = false := by
        cases hb : Nat.blt (n % 256) (n' % 256) with
        | false => rfl
        | true => have : n % 256 < n' % 256 := Nat.le_of_ble_eq_true hb; omega
      rw [if_neg (fun h => by have := ofNat_lt.1 h; omega), if_neg (fun h => by have := ofNat_lt.1 h; omega), this, show Nat.beq (n % 256) (n' % 256) = true from by simp [heq]]
      exact ih
    · have h1 : Nat.blt (n % 256) (n' % 256) = false := by
        cases hb : Nat.blt (n % 256) (n' % 256) with
        | false => rfl
        | true => have : n % 256 < n' % 256 := Nat.le_of_ble_eq_true hb; omega
      have h2 : Nat.beq (n % 256) (n' % 256) = false := by
        cases hb : Nat.beq (n % 256) (n' % 256) with
        | false => rfl
        | true => have := Nat.eq_of_beq_eq_true hb; omega
      rw [if_neg (fun h => by have := ofNat_lt.1 h; omega), if_pos (ofNat_lt.2 hgt), h1, h2]
      simp
theorem cmp_rev : ∀ (a b : List UInt8), Lib.compareBytes a b = - Lib.compareBytes b a
  | [], [] => rfl
  | [], _ :: _ => rfl
  | _ :: _, [] => rfl
  | a :: as, b :: bs => by
    simp only [Lib.compareBytes]
    by_cases h1 : a < b
    · have h2 : ¬ b < a := fun h => by rw [UInt8.lt_iff_toNat_lt] at h h1; omega
      simp [h1, h2]
    · by_cases h2 : b < a
      · simp [h1, h2]
      · simp only [h1, h2, if_false]; exact cmp_rev as bs
theorem cmp_three : ∀ (a b : List UInt8), Lib.compareBytes a b = -1 ∨ Lib.compareBytes a b = 0 ∨ Lib.compareBytes a b = 1
  | [], [] => .inr (.inl rfl)
  | [], _ :: _ => .inl rfl
  | _ :: _, [] => .inr (.inr rfl)
  | a :: as, b :: bs => by
    simp only [Lib.compareBytes]
    split
    · exact .inl rfl
    · split
      · exact .inr (.inr rfl)
      · exact cmp_three as bs
theorem ext2_ok (hB : Bodyless P f Extern.BytealgCompare.compare) (args : List AV) (h : Hp) (nx : Nat) : CallOk P f args h nx (extern E 2 args h nx) := by
  unfold extern
  split <;> first | exact callOk_fail | skip
  all_goals (first | (rename_i heq _; cases heq; done) | (rename_i heq; cases heq; done) | skip)
  rename_i l n l' n' _
  refine callOk_now hB fun ρ w H _ => ⟨_, w, Lib.run_compareString (P := P) (toBA l n) (toBA l' n') w, ?_⟩
  refine ⟨ρ, Step.refl H, trivial, ?_⟩
  show Value.int .i64 (Lib.compareBytes (bytesL l n) (bytesL l' n')) = Value.int .i64 _
  congr 1
  have h1 := cmp_less (l + 1) l n l' n' (Nat.lt_succ_self _)
  have h2 := cmp_less (l' + 1) l' n' l n (Nat.lt_succ_self _)
  have h3 := cmp_rev (bytesL l n) (bytesL l' n')
  have h4 := cmp_three (bytesL l n) (bytesL l' n')
  show _ = (match strLess (l + 1) l n l' n' with | true => Int.negSucc 0 | false => match strLess (l' + 1) l' n' l n with | true => Int.ofNat 1 | false => Int.ofNat 0)
  cases hs1 : strLess (l + 1) l n l' n' with
  | true => rw [hs1] at h1; exact h1.2 rfl
  | false =>
    rw [hs1] at h1
    have g1 : Lib.compareBytes (bytesL l n) (bytesL l' n') ≠ -1 := fun e => by simp at h1; exact h1 e
    cases hs2 : strLess (l' + 1) l' n' l n with
    | true => rw [hs2] at h2; have := h2.2 rfl; show _ = (1 : Int); omega
    | false =>
      rw [hs2] at h2
      have g2 : Lib.compareBytes (bytesL l' n') (bytesL l n) ≠ -1 := fun e => by simp at h2; exact h2 e
      show _ = (0 : Int); omega
theorem ext3_ok (hB : Bodyless P f Extern.AbiNoEscape.same) (args : List AV) (h : Hp) (nx : Nat) : CallOk P f args h nx (extern E 3 args h nx) := by
  unfold extern
  split <;> first | exact callOk_fail | skip
  all_goals (first | (rename_i heq _; cases heq; done) | (rename_i heq; cases heq; done) | skip)
  rename_i x _
  exact callOk_now hB fun ρ w H ha => ⟨conc ρ x, w, rfl, valOk_pure H ha.1⟩
theorem ext4_ok (hE : EnvOk E P) {ps : Array TypeId} {t : TypeId} (hB : Bodyless P f (Extern.BytealgMakeNoZero.makeNoZero ps #[t])) (ht : P.underlying t = some (.slice E.u8)) (args : List AV) (h : Hp) (nx : Nat) : CallOk P f args h nx (extern E 4 args h nx) := by
  unfold extern
  split <;> first | exact callOk_fail | skip
  all_goals (first | (rename_i heq _; cases heq; done) | (rename_i heq; cases heq; done) | skip)
  rename_i n _
  cases hn : Nat.ble n 100000000 with
  | false => exact callOk_fail
  | true =>
    have hn : n ≤ 100000000 := Nat.le_of_ble_eq_true hn
    refine callOk_now hB fun ρ w H _ => ?_
    obtain ⟨cs, g1, g2, g3⟩ := Lib.run_makeNoZero (P := P) w ps t E.u8 ht n (by omega)
    refine ⟨_, _, g1, ?_⟩
    have st := new_ok (hz := rfl) H n [] .nil (some 0) E.u8 cs (0, 0) 0 (by omega) (.inl rfl) fun i v hi hv => by
      simp [cellAt] at hv
    refine ⟨_, st.heapEq (by rfl), Nat.lt_succ_self _, ?_⟩
    simp [conc, Rho.at, Rho.cap]
theorem ext6_ok (hB : Bodyless P f Extern.MapsClone.clone) (args : List AV) (h : Hp) (nx : Nat) : CallOk P f args h nx (extern E 6 args h nx) := by
  unfold extern
  split <;> first | exact callOk_fail | skip
  all_goals (first | (rename_i heq _; cases heq; done) | (rename_i heq; cases heq; done) | skip)
  rename_i t r _
  split
  case h_2 => exact callOk_fail
  rename_i es c hm
  unfold mapOf at hm
  split at hm
  case h_2 => cases hm
  rename_i ob hob
  split at hm
  case h_2 => cases hm
  cases hm
  refine callOk_now hB fun ρ w H _ => ?_
  obtain ⟨hlt, hes, hw⟩ := H.obj _ _ hob
  have e : Extern.MapsClone.clone #[.iface t (.map (some (ρ.ι r)))] = (do
    let .map entries clock ← getObj (ρ.ι r) | stuck "maps.clone: a map expected"
    pure (.iface t (.map (some (← Go.newObj (.map entries clock)))))) := rfl
  have st := HR.new (hz := rfl) H (Obj.map (es.map (centry ρ)).toArray c) (AO.map es c) 0 0 ⟨hes.mono (Nat.le_succ _), by
    rw [Rho.upd_ι, Ses.ext (nx' := nx + 1) (Ext.upd ρ nx w.heap.size 0 0 (hz := rfl)) hes]; simp⟩
  refine ⟨_, { w with heap := w.heap.push (Obj.map (es.map (centry ρ)).toArray c) }, ?_, _, st, Nat.lt_succ_self _, rfl⟩
  show (Extern.MapsClone.clone #[.iface t (.map (some (ρ.ι r)))]).run P w = _
  rw [e]
  have hg : (getObj (ρ.ι r)).run P w = .ok (.map (es.map (centry ρ)).toArray c) w := by unfold getObj; simp [Sem.run, hw]
  simp only [Sem.run_bind, hg, Result.andThen_ok]
  simp [conc]
end
end Go.Ev
/-! THE EVALUATOR's SOUNDNESS, 35: where one text begins in another. -/
namespace Go.Ev
open Go
theorem ofNat_eq {a b : Nat} : (UInt8.ofNat (a % 256) == UInt8.ofNat (b % 256)) = decide (a % 256 = b % 256) := by
  rw [Bool.eq_iff_iff]
  simp only [beq_iff_eq, decide_eq_true_eq]
  constructor
  · intro h; have := congrArg UInt8.toNat h; simpa using this
  · intro h; rw [h]
theorem mod_split (a b k : Nat) : (a % 256 ^ (k + 1) = b % 256 ^ (k + 1)) ↔ (a % 256 = b % 256 ∧ a / 256 % 256 ^ k = b / 256 % 256 ^ k) := by
  have key : ∀ x : Nat, x % 256 ^ (k + 1) = x % 256 + 256 * (x / 256 % 256 ^ k) := fun x => by
    rw [Nat.pow_succ, Nat.mul_comm (256 ^ k) 256, Nat.mod_mul]
  rw [key, key]
  constructor
  · intro h
    have h1 := Nat.mod_lt a (show 0 < 256 by decide)
    have h2 := Nat.mod_lt b (show 0 < 256 by decide)
    constructor <;> omega
  · rintro ⟨h1, h2⟩; rw [h1, h2]
theorem prefix_eq : ∀ (l k n m : Nat), (bytesL l n).isPrefixOf (bytesL k m) = decide (l ≤ k ∧ m % 256 ^ l = n % 256 ^ l)
  | 0, k, n, m => by simp [bytesL, Nat.mod_one]
  | l + 1, 0, n, m => by simp [bytesL]
  | l + 1, k + 1, n, m => by
    simp only [bytesL, List.isPrefixOf]
    rw [ofNat_eq, prefix_eq l k, Bool.eq_iff_iff]
    simp only [Bool.and_eq_true, decide_eq_true_eq]
    rw [mod_split]
    constructor
    · rintro ⟨h1, h2, h3⟩; exact ⟨by omega, h1.symm, h3⟩
    · rintro ⟨h1, h2, h3⟩; exact ⟨h2.symm, by omega, h3⟩
theorem findStr_eq (n n' l' : Nat) : ∀ (k i : Nat), Lib.index (bytesL k (n / 256 ^ i)) (bytesL l' n') = (match findStr n n' l' (k + 1 - l') i with | some j => ((j : Int) - i) | none => -1) ∧ ∀ j, findStr n n' l' (k + 1 - l') i = some j → i ≤ j
  | 0, i => by
    cases l' with
    | zero =>
      have e : findStr n n' 0 (0 + 1 - 0) i = some i := by
        show (match Nat.beq (n / 256 ^ i % 256 ^ (i + 0 - i)) (n' % 256 ^ 0) with | true => some i | false => none) = some i
        rw [show i + 0 - i = 0 from by omega]; simp [Nat.mod_one]
      rw [e]; exact ⟨by simp [bytesL, Lib.index], fun j h => by cases h; exact Nat.le_refl _⟩
    | succ l' =>
      have e : findStr n n' (l' + 1) (0 + 1 - (l' + 1)) i = none := by rw [show 0 + 1 - (l' + 1) = 0 from by omega]; rfl
      rw [e]; exact ⟨by simp [bytesL, Lib.index], fun j h => by cases h⟩
  | k + 1, i => by
    obtain ⟨ih, ihl⟩ := findStr_eq n n' l' k (i + 1)
    have hd : n / 256 ^ i / 256 = n / 256 ^ (i + 1) := by rw [Nat.div_div_eq_div_mul, Nat.pow_succ]
    have e2 : Lib.index (bytesL (k + 1) (n / 256 ^ i)) (bytesL l' n') = if (bytesL l' n').isPrefixOf (bytesL (k + 1) (n / 256 ^ i)) then 0 else if Lib.index (bytesL k (n / 256 ^ i / 256)) (bytesL l' n') == -1 then -1 else Lib.index (bytesL k (n / 256 ^ i / 256)) (bytesL l' n') + 1 := by
      rfl
    rw [e2, prefix_eq, hd]
    by_cases hle : l' ≤ k + 1
    · have e1 : k + 1 + 1 - l' = (k + 1 - l') + 1 := by omega
      have e3 : findStr n n' l' (k + 1 - l' + 1) i = (match Nat.beq (n / 256 ^ i % 256 ^ l') (n' % 256 ^ l') with | true => some i | false => findStr n n' l' (k + 1 - l') (i + 1)) := by
        show (match Nat.beq (n / 256 ^ i % 256 ^ (i + l' - i)) (n' % 256 ^ l') with | true => some i | false => _) = _
        rw [show i + l' - i = l' from by omega]
      rw [e1, e3]
      cases hq : Nat.beq (n / 256 ^ i % 256 ^ l') (n' % 256 ^ l') with
      | true =>
        have := Nat.eq_of_beq_eq_true hq
        rw [if_pos (by simp [hle, this])]
        exact ⟨by simp, fun j h => by cases h; exact Nat.le_refl _⟩
      | false =>
        have : ¬ n / 256 ^ i % 256 ^ l' = n' % 256 ^ l' := fun e => by rw [e] at hq; simp at hq
        rw [if_neg (by simp [this]), ih]
        cases hf : findStr n n' l' (k + 1 - l') (i + 1) with
        | none => exact ⟨rfl, fun j h => by cases h⟩
        | some j =>
          have hj := ihl j hf
          have hne : (((j : Int) - ((i + 1 : Nat) : Int)) == -1) = false := by rw [beq_eq_false_iff_ne]; omega
          simp only [hne, Bool.false_eq_true, if_false]
          exact ⟨by omega, fun j' h => by cases h; omega⟩
    · rw [if_neg (by simp; omega), ih]
      rw [show k + 1 + 1 - l' = 0 from by omega, show k + 1 - l' = 0 from by omega]
      exact ⟨rfl, fun j h => by cases h⟩
theorem ext7_ok {E : Env} {P : Program} {f : Nat} (hent : ∀ args w, (callFunc f args).run P w = .ok (.enter f args) w)
    (hidx : ∀ (s sub : ByteArray) (m : Int) (w : World), s.size < 4294967281 → w.cell? ⟨gB0, 0, none⟩ = some (.int .i64 m) →
      Calls P f #[.string s, .string sub] w fun e w' => e = .returned (.int .i64 (Lib.index s.data.toList sub.data.toList)) ∧ w' = w)
    (args : List AV) (h : Hp) (nx : Nat) : CallOk P f args h nx (extern E 7 args h nx) := by
  unfold extern
  split <;> first | exact callOk_fail | skip
  all_goals (first | (rename_i heq _; cases heq; done) | (rename_i heq; cases heq; done) | skip)
  rename_i l n l' n' _
  cases hb : Nat.blt l 4294967281 with
  | false => exact callOk_fail
  | true =>
    have hb : l < 4294967281 := Nat.le_of_ble_eq_true hb
    intro v h' nx' e ρ w H _
    cases e
    obtain ⟨m, t, fr, hg⟩ := H.glob
    refine .inr ⟨hent _ _, Calls.mono (hidx (toBA l n) (toBA l' n') m w (by rw [toBA_size]; exact hb) (by simp [World.cell?, hg])) fun e w' he => ?_⟩
    obtain ⟨rfl, rfl⟩ := he
    refine ⟨ρ, Step.refl H, by unfold iOpt; split <;> trivial, ?_⟩
    show Value.int .i64 (Lib.index (bytesL l n) (bytesL l' n')) = _
    have := (findStr_eq n n' l' l 0).1
    simp only [Nat.pow_zero, Nat.div_one] at this
    rw [this]
    cases findStr n n' l' (l + 1 - l') 0 with
    | none => simp [iOpt, conc]
    | some j => simp [iOpt, conc, rI]
end Go.Ev
