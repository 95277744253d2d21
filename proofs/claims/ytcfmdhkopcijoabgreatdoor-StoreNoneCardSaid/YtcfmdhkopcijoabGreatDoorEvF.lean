import Derived.Test.YtcfmdhkopcijoabGreatDoorEvE
set_option linter.all false
/-! THE EVALUATOR's SOUNDNESS, 22: the regions that draw: what the checks tell. -/
namespace Go.Ev
open Go
theorem clsOf_le (o : Oper) : clsOf o ≤ 3 := by
  unfold clsOf
  cases o.op <;> first | exact (by decide : (0 : Nat) ≤ 3) | exact (by decide : (1 : Nat) ≤ 3) | exact (by decide : (2 : Nat) ≤ 3) | exact (by decide : (3 : Nat) ≤ 3) | skip
  rename_i c
  show (match c.callee with | .builtin b => (match b with | .len => 1 | .cap => 0 | .min => 0 | .max => 0 | _ => 3) | _ => 3) ≤ 3
  split
  · split <;> omega
  · omega
section
variable {E : Env} {i bi m : Nat}
theorem spanOf_spec : ∀ (l : List Oper) (ts : List Tr) (bs : List Nat) (j lo hi : Nat), lo ≤ m → m ≤ hi →
    (∀ x o t b, l[x]? = some o → ts[x]? = some t → bs[x]? = some b → 2 ≤ clsOf o → t.run = true → (bit bi (j + x) = true → t.k + 1 ≤ m) ∧ (bit b i = true → m ≤ t.k)) →
    (spanOf i bi l ts bs j lo hi).1 ≤ m ∧ m ≤ (spanOf i bi l ts bs j lo hi).2
  | [], ts, bs, j, lo, hi, h1, h2, _ => ⟨h1, h2⟩
  | o :: l, ts, bs, j, lo, hi, h1, h2, h3 => by
    cases ts with
    | nil => exact ⟨h1, h2⟩
    | cons t ts =>
    cases bs with
    | nil => exact ⟨h1, h2⟩
    | cons b bs =>
    have rest : ∀ lo hi, lo ≤ m → m ≤ hi → (spanOf i bi l ts bs (j + 1) lo hi).1 ≤ m ∧ m ≤ (spanOf i bi l ts bs (j + 1) lo hi).2 := fun lo hi g1 g2 =>
      spanOf_spec l ts bs (j + 1) lo hi g1 g2 fun x o' t' b' k1 k2 k3 k4 k5 => by
        have := h3 (x + 1) o' t' b' (by simpa using k1) (by simpa using k2) (by simpa using k3) k4 k5
        rw [show j + 1 + x = j + (x + 1) from by omega]
        exact this
    simp only [spanOf]
    split
    · exact rest lo hi h1 h2
    · exact rest lo hi h1 h2
    · rename_i n0 n1
      have h2c : 2 ≤ clsOf o := by
        rcases Nat.lt_or_ge (clsOf o) 2 with h | h
        · have : clsOf o = 0 ∨ clsOf o = 1 := by omega
          rcases this with h | h
          · exact absurd h n0
          · exact absurd h n1
        · exact h
      split
      · exact rest lo hi h1 h2
      · rename_i hrun
        obtain ⟨q1, q2⟩ := h3 0 o t b rfl rfl rfl h2c hrun
        split
        · rename_i hb; exact rest _ hi (q1 (by simpa using hb)) h2
        · split
          · rename_i hb
            refine rest lo _ h1 ?_
            split
            · exact q2 hb
            · exact h2
          · exact rest lo hi h1 h2
theorem sameAt_spec {o : Op} {tm : PT AV} {v : AV} {lo hi : Nat} : ∀ {l : List Sg} {s : Nat}, sameAt E o tm v lo hi l s = true → ∀ j g, l[j]? = some g → lo ≤ s + j → s + j ≤ hi → isPv v (op E tm g.h g.nx o) = true
  | [], s, _, j, g, hg, _, _ => by simp at hg
  | g0 :: l, s, hs, j, g, hg, hlo, hhi => by
    simp only [sameAt] at hs
    split at hs
    · rename_i hb
      have hb : ¬ lo ≤ s := fun h => by rw [Nat.ble_eq_true_of_le h] at hb; cases hb
      cases j with
      | zero => exact absurd (by simpa using hlo) hb
      | succ j => exact sameAt_spec hs j g (by simpa using hg) (by omega) (by omega)
    · split at hs
      · rename_i hb
        have hb : ¬ s ≤ hi := fun h => by rw [Nat.ble_eq_true_of_le h] at hb; cases hb
        omega
      · split at hs
        · rename_i hp
          cases j with
          | zero => simp only [List.getElem?_cons_zero, Option.some.injEq] at hg; subst hg; exact hp
          | succ j => exact sameAt_spec hs j g (by simpa using hg) (by omega) (by omega)
        · cases hs
theorem isPv_ok {v : AV} {r : O} (h : isPv v r = true) : r = .pv v := by
  unfold isPv at h
  split at h
  · rename_i u; rw [beqV_ok v u h]
  · cases h
theorem phase2_ok {all : List Oper} {trs : List Tr} {bs : List Nat} {sts : List Sg} : ∀ {l : List Oper} {ts : List Tr} {ks : List Nat} {i : Nat}, phase2 E all trs bs sts l ts ks i = true →
    ∀ x o t b, l[x]? = some o → ts[x]? = some t → ks[x]? = some b → readOk E all trs bs sts o t b (i + x) = true
  | [], ts, ks, i, _, x, o, t, b, ho, _, _ => by simp at ho
  | o0 :: l, ts, ks, i, h, x, o, t, b, ho, ht, hb => by
    simp only [phase2] at h
    split at h
    · cases h
    · rename_i t0 ts
      split at h
      · cases h
      · rename_i b0 ks
        split at h
        · rename_i hr
          cases x with
          | zero =>
            simp only [List.getElem?_cons_zero, Option.some.injEq] at ho ht hb
            subst ho ht hb
            exact hr
          | succ x =>
            rw [show i + (x + 1) = i + 1 + x from by omega]
            exact phase2_ok h x o t b (by simpa using ho) (by simpa using ht) (by simpa using hb)
        · cases h
/-- A read answers the same at every stage that its span allows. -/
theorem readOk_ok {all : List Oper} {trs : List Tr} {bs : List Nat} {sts : List Sg} {o : Oper} {t : Tr} {b i : Nat} (h : readOk E all trs bs sts o t b i = true) (hc : clsOf o = 1) (hr : t.run = true)
    {m : Nat} {g : Sg} (hg : sts[m]? = some g)
    (hsp : ∀ x o' t' b', all[x]? = some o' → trs[x]? = some t' → bs[x]? = some b' → 2 ≤ clsOf o' → t'.run = true → (bit b x = true → t'.k + 1 ≤ m) ∧ (bit b' i = true → m ≤ t'.k)) :
    op E t.tm g.h g.nx o.op = .pv t.v := by
  unfold readOk at h
  rw [hc, hr] at h
  simp only at h
  have hm : m ≤ len sts := by rw [len_eq]; have := (List.getElem?_eq_some_iff.1 hg).1; omega
  have sp := spanOf_spec (i := i) (bi := b) (m := m) all trs bs 0 0 (len sts) (Nat.zero_le _) hm (fun x o' t' b' k1 k2 k3 k4 k5 => by rw [Nat.zero_add]; exact hsp x o' t' b' k1 k2 k3 k4 k5)
  have := sameAt_spec h m g hg (by rw [Nat.zero_add]; exact sp.1) (by rw [Nat.zero_add]; exact sp.2)
  exact isPv_ok this
theorem pairsOk_spec {arr : Array Oper} {oj : Oper} {bj : Nat} : ∀ {l : List Oper} {i : Nat}, pairsOk arr oj bj l i = true → ∀ x oi, l[x]? = some oi → pairOk arr oi oj (i + x) bj = true
  | [], i, _, x, oi, h => by simp at h
  | o :: l, i, h, x, oi, hx => by
    simp only [pairsOk] at h
    split at h
    · rename_i hp
      cases x with
      | zero => simp only [List.getElem?_cons_zero, Option.some.injEq] at hx; subst hx; exact hp
      | succ x => rw [show i + (x + 1) = i + 1 + x from by omega]; exact pairsOk_spec h x oi (by simpa using hx)
    · cases h
theorem settled_spec {bf : Nat} : ∀ {l : List Oper} {i : Nat}, settled bf l i = true → ∀ x o, l[x]? = some o → clsOf o = 3 → bit bf (i + x) = true
  | [], i, _, x, o, h, _ => by simp at h
  | o0 :: l, i, h, x, o, hx, hc => by
    simp only [settled] at h
    have rest : settled bf l (i + 1) = true → ∀ x o, l[x]? = some o → clsOf o = 3 → bit bf (i + (x + 1)) = true := fun h x o hx hc => by
      rw [show i + (x + 1) = i + 1 + x from by omega]; exact settled_spec h x o hx hc
    split at h
    · split at h
      · rename_i hb
        cases x with
        | zero => exact hb
        | succ x => exact rest h x o (by simpa using hx) hc
      · cases h
    · rename_i hn
      cases x with
      | zero => simp only [List.getElem?_cons_zero, Option.some.injEq] at hx; subst hx; exact absurd hc hn
      | succ x => exact rest h x o (by simpa using hx) hc
theorem onlyActs_spec {f : Nat} : ∀ {l : List Oper} {bs : List Nat}, onlyActs f l bs = true → ∀ (x : Nat) (o : Oper) (b : Nat), l[x]? = some o → bs[x]? = some b → bit b f = true → clsOf o = 3 ∧ o.guard = none
  | [], bs, _, x, o, b, h, _, _ => by simp at h
  | o0 :: l, bs, h, x, o, b, hx, hb, hbit => by
    simp only [onlyActs] at h
    split at h
    · cases h
    · rename_i b0 bs
      split at h
      · rename_i hb0
        split at h
        · rename_i hc
          split at h
          · rename_i hgd
            cases x with
            | zero => simp only [List.getElem?_cons_zero, Option.some.injEq] at hx; subst hx; exact ⟨hc, hgd⟩
            | succ x => exact onlyActs_spec h x o b (by simpa using hx) (by simpa using hb) hbit
          · cases h
        · cases h
      · rename_i hb0
        cases x with
        | zero => simp only [List.getElem?_cons_zero, Option.some.injEq] at hb; subst hb; rw [hbit] at hb0; cases hb0
        | succ x => exact onlyActs_spec h x o b (by simpa using hx) (by simpa using hb) hbit
theorem allOk_spec {arr : Array Oper} {all : List Oper} : ∀ {l : List Oper} {bs : List Nat} {j : Nat}, allOk arr all l bs j = true → ∀ x o b, l[x]? = some o → bs[x]? = some b →
    backOk (j + x) o.after.toList = true ∧ pairsOk arr o b (all.take (j + x)) 0 = true ∧ floatOk all o (j + x) b (l.drop (x + 1)) (bs.drop (x + 1)) = true
  | [], bs, j, _, x, o, b, h, _ => by simp at h
  | o0 :: l, bs, j, h, x, o, b, hx, hb => by
    simp only [allOk] at h
    split at h
    case h_2 => cases h
    rename_i b0 bs
    split at h
    case h_2 => cases h
    rename_i g1
    split at h
    case h_2 => cases h
    rename_i g2
    split at h
    case h_2 => cases h
    rename_i g3
    cases x with
    | zero =>
      simp only [List.getElem?_cons_zero, Option.some.injEq] at hx hb
      subst hx hb
      exact ⟨g1, g2, by simpa using g3⟩
    | succ x =>
      rw [show j + (x + 1) = j + 1 + x from by omega]
      obtain ⟨k1, k2, k3⟩ := allOk_spec h x o b (by simpa using hx) (by simpa using hb)
      exact ⟨k1, k2, by simpa using k3⟩
theorem noDst_spec {d : Nat} : ∀ {l : List Oper}, noDst (some d) l = true → ∀ (x : Nat) (o : Oper), l[x]? = some o → o.dst ≠ some d
  | [], _, x, o, h => by simp at h
  | o0 :: l, h, x, o, hx => by
    simp only [noDst] at h
    have rest : noDst (some d) l = true → ∀ (x : Nat) (o : Oper), l[x]? = some o → o.dst ≠ some d := fun h => noDst_spec h
    cases x with
    | zero =>
      simp only [List.getElem?_cons_zero, Option.some.injEq] at hx
      subst hx
      intro hd
      rw [hd] at h
      simp at h
    | succ x =>
      have hx : l[x]? = some o := by simpa using hx
      split at h
      · exact rest h x o hx
      · split at h
        · cases h
        · exact rest h x o hx
/-- What the checks tell of a region that draws. -/
structure Drawn (arr : Array Oper) : Prop where
  back : ∀ (j : Nat) (o : Oper), arr[j]? = some o → ∀ e ∈ o.after, Region.binds .any e = true → e.on < j
  pair : ∀ (i j : Nat) (oi oj : Oper) (b : Nat), i < j → arr[i]? = some oi → arr[j]? = some oj → (befsOf arr.toList)[j]? = some b → pairOk arr oi oj i b = true
  floats : ∀ (f : Nat) (o : Oper) (b : Nat), arr[f]? = some o → (befsOf arr.toList)[f]? = some b → clsOf o = 2 →
    (∀ (i : Nat) (oi : Oper), i < f → arr[i]? = some oi → clsOf oi = 3 → bit b i = true) ∨
    ((∃ t, o.op = .alloc t) ∧ (∀ (j : Nat) (oj : Oper) (bj : Nat), f < j → arr[j]? = some oj → (befsOf arr.toList)[j]? = some bj → bit bj f = true → clsOf oj = 3 ∧ oj.guard = none) ∧
      ∀ (d : Nat), o.dst = some d → ∀ (j : Nat) (oj : Oper), j ≠ f → arr[j]? = some oj → oj.dst ≠ some d)
theorem drawOk_spec {arr : Array Oper} (h : drawOk arr = true) : Drawn arr := by
  have spec : ∀ x o b, arr[x]? = some o → (befsOf arr.toList)[x]? = some b → _ := fun x o b hx hb => allOk_spec h x o b (by rw [Array.getElem?_toList]; exact hx) hb
  have hb : ∀ x o, arr[x]? = some o → ∃ b, (befsOf arr.toList)[x]? = some b := fun x o hx => by
    obtain ⟨b, hb, _⟩ := befsOf_spec (l := arr.toList) (i := x) (o := o) (by rw [Array.getElem?_toList]; exact hx)
    exact ⟨b, hb⟩
  refine ⟨fun j o hj e he hbi => ?_, fun i j oi oj b hij hi hj hbj => ?_, fun f o b hf hbf hc => ?_⟩
  · obtain ⟨b, hbj⟩ := hb j o hj
    obtain ⟨g1, _, _⟩ := spec j o b hj hbj
    rw [Nat.zero_add] at g1
    have := List.all_eq_true.1 g1 e (by simpa using he)
    rw [hbi] at this
    exact Nat.le_of_ble_eq_true this
  · obtain ⟨_, g2, _⟩ := spec j oj b hj hbj
    rw [Nat.zero_add] at g2
    have := pairsOk_spec g2 i oi (by rw [List.getElem?_take, if_pos hij, Array.getElem?_toList]; exact hi)
    rwa [Nat.zero_add] at this
  · obtain ⟨_, _, g3⟩ := spec f o b hf hbf
    rw [Nat.zero_add] at g3
    unfold floatOk at g3
    rw [hc] at g3
    simp only at g3
    split at g3
    · rename_i hs
      refine .inl fun i oi hif hi hci => ?_
      have := settled_spec hs i oi (by rw [List.getElem?_take, if_pos hif, Array.getElem?_toList]; exact hi) hci
      rwa [Nat.zero_add] at this
    · split at g3
      · rename_i t ht
        split at g3
        case h_2 => cases g3
        rename_i ho
        split at g3
        case h_2 => cases g3
        rename_i hn1
        refine .inr ⟨⟨t, ht⟩, fun j oj bj hfj hj hbj hbit => ?_, fun d hd j oj hne hj => ?_⟩
        · refine onlyActs_spec ho (j - (f + 1)) oj bj ?_ ?_ hbit
          · rw [List.getElem?_drop, show f + 1 + (j - (f + 1)) = j from by omega, Array.getElem?_toList]; exact hj
          · rw [List.getElem?_drop, show f + 1 + (j - (f + 1)) = j from by omega]; exact hbj
        · rw [hd] at hn1 g3
          rcases Nat.lt_or_ge j f with h | h
          · exact noDst_spec hn1 j oj (by rw [List.getElem?_take, if_pos h, Array.getElem?_toList]; exact hj)
          · exact noDst_spec g3 (j - (f + 1)) oj (by rw [List.getElem?_drop, show f + 1 + (j - (f + 1)) = j from by omega, Array.getElem?_toList]; exact hj)
      · cases g3
end
end Go.Ev
/-! THE EVALUATOR's SOUNDNESS, 23: the regions that draw: steps. -/
namespace Go.Ev
open Go
noncomputable def restr (tm : PT AV) : List Nat → PT AV
  | [] => .nil
  | t :: l => match tm.get t with
    | some v => (restr tm l).set t v
    | none => restr tm l
theorem restr_get (tm : PT AV) (x : Nat) : ∀ l, (restr tm l).get x = if x ∈ l then tm.get x else none
  | [] => by simp [restr, PT.get_nil]
  | t :: l => by
    have ih := restr_get tm x l
    simp only [restr]
    cases ht : tm.get t with
    | none =>
      simp only
      rw [ih]
      by_cases hx : x = t
      · subst hx; simp [ht]
      · simp [hx]
    | some v =>
      simp only
      rw [PT.get_set, ih]
      by_cases hx : t = x
      · subst hx; simp [ht]
      · rw [if_neg hx]
        have : ¬ x = t := fun e => hx e.symm
        simp [this]
theorem op_restr {E : Env} {ops : Array Oper} (o : Oper) (tm : PT AV) (h : Hp) (nx : Nat) : op E (restr tm (o.looksAt ops)) h nx o.op = op E tm h nx o.op := by
  refine op_congr o.op fun x hx => ?_
  cases x with
  | tmp t =>
    show (restr tm (o.looksAt ops)).get t = tm.get t
    rw [restr_get, if_pos]
    unfold Oper.looksAt
    exact List.mem_append_left _ (List.mem_filterMap.2 ⟨.tmp t, by simpa using hx, rfl⟩)
  | const v => rfl
  | global g => rfl
  | func f => rfl
theorem wantO_restr {ops : Array Oper} (o : Oper) (tm : PT AV) : wantO ops.toList (restr tm (o.looksAt ops)) o = wantO ops.toList tm o := by
  unfold wantO
  cases hg : o.guard with
  | none => rfl
  | some g =>
    simp only
    unfold wantedG
    cases hn : nth ops.toList g.1 with
    | none => rfl
    | some o' =>
      simp only
      cases hd : o'.dst with
      | none => rfl
      | some d =>
        simp only
        rw [restr_get, if_pos]
        unfold Oper.looksAt
        rw [hg]
        have hn' : ops[g.1]? = some o' := by simpa using hn
        simp [hn', hd]
theorem wantO_ok {ρ : Rho} {nx : Nat} {tm : PT AV} {a : Act} (hT : TR ρ nx tm a.tmps) {ops : Array Oper} {o : Oper} {b : Bool} (hw : wantO ops.toList tm o = some b) : Region.wanted o (yielded ops a.tmps) = b := by
  unfold wantO at hw
  cases hg : o.guard with
  | none => rw [hg] at hw; cases hw; simp [Region.wanted, hg]
  | some g => rw [hg] at hw; exact wantedG_ok hT hg hw
section
variable {E : Env} {P : Program} {rec : Rec}
theorem act_step {ρ : Rho} {h : Hp} {nx : Nat} {w : World} {a : Act} {tm : PT AV} {df df' : List ADef} {o : Oper} {v : AV} {h' : Hp} {nx' : Nat}
    (hE : EnvOk E P) (hcall : ∀ f args h nx, CallOk P f args h nx (rec (.call f args) .nil [] h nx)) (H : HR ρ h nx w) (hT : TR ρ nx tm a.tmps) (hD : DR ρ nx df a.defers)
    (hr : actR rec df h nx (op E tm h nx o.op) = some (v, df', h', nx')) {K : Act → World → Prop} {Q : Exit → Act → World → Prop}
    (hK : ∀ ρ1 w1 a1, Step ρ h nx w ρ1 h' nx' w1 → Sc nx' v → DR ρ1 nx' df' a1.defers → a1.tmps = (a.put o.dst (conc ρ1 v)).tmps → K a1 w1) :
    o.wp P a w K Q ∨ (o.asks P a w ∧ LetsOut Q) := by
  have hop := op_ok (P := P) (ρ := ρ) (o := o) (a := a) hE hT H
  cases hv : op E tm h nx o.op with
  | fail => rw [hv] at hr; cases hr
  | pv u =>
    rw [hv] at hr hop
    cases hr
    obtain ⟨h1, h2⟩ := hop
    refine .inl ?_
    unfold Oper.wp
    rw [h2]
    exact hK ρ w _ (Step.refl H) h1 (by rw [put_defers]; exact hD) rfl
  | val u h1 nx1 =>
    rw [hv] at hr hop
    cases hr
    obtain ⟨ρ1, w1, s1, h1, h2⟩ := hop
    refine .inl ?_
    unfold Oper.wp
    rw [h2]
    exact hK ρ1 w1 _ s1 h1 (by rw [put_defers]; exact hD.ext s1.ext s1.le) rfl
  | skip h1 =>
    rw [hv] at hr hop
    cases hr
    obtain ⟨w1, s1, h2⟩ := hop
    refine .inl ?_
    unfold Oper.wp
    rw [h2]
    exact hK ρ w1 _ s1 trivial (by rw [put_defers]; exact hD) rfl
  | enter f args =>
    rw [hv] at hr hop
    obtain ⟨h1, h2⟩ := hop
    refine .inl ?_
    unfold Oper.wp
    rw [h2]
    have hr : valR df (rec (.call f args) .nil [] h nx) = some (v, df', h', nx') := hr
    cases hc : rec (.call f args) .nil [] h nx with
    | fail y => rw [hc] at hr; cases hr
    | code => rw [hc] at hr; cases hr
    | val u h1' nx1 =>
      rw [hc] at hr
      cases hr
      have fin : ∀ u w1, ValOk ρ h nx w v h' nx' u w1 → K (a.put o.dst u) w1 := fun u w1 ⟨ρ1, s1, g1, g2⟩ => by
        rw [g2]
        exact hK ρ1 w1 _ s1 g1 (by rw [put_defers]; exact hD.ext s1.ext s1.le) rfl
      rcases hcall f args h nx v h' nx' hc ρ w H h1 with ⟨u, w1, g1, g2⟩ | ⟨g1, g2⟩
      · rw [g1]; exact fin u w1 g2
      · rw [g1]
        show Calls P f _ w _
        refine Calls.mono g2 fun e w' he => ?_
        cases e with
        | returned u => exact fin u w' he
        | panicked c => exact he.elim
        | outgrown => exact he.elim
  | defer d =>
    rw [hv] at hr hop
    cases hr
    obtain ⟨h1, cap, args, h2, h3⟩ := hop
    refine .inl ?_
    unfold Oper.wp
    rw [h3]
    refine hK ρ w _ (Step.refl H) trivial ?_ ?_
    · rw [put_defers]; exact ⟨⟨h1, cap, args, h2, rfl⟩, hD⟩
    · cases o.dst <;> rfl
/-- A block that stands there already is taken in under a new name. -/
theorem adopt {ρ0 ρ : Rho} {h0 h : Hp} {nx0 nx : Nat} {w0 w : World} (s : Step ρ0 h0 nx0 w0 ρ h nx w) (B : Nat) (hB : w0.heap.size ≤ B) (hG : B ≠ gB0) (hfree : ∀ b, Live h b → ρ.ι b ≠ B) (ao : AO) (sz : Nat)
    (ho : ORel (ρ.upd nx B 0 sz) (nx + 1) nx ao w) : Step ρ0 h0 nx0 w0 (ρ.upd nx B 0 sz) (h.set nx ao) (nx + 1) w := by
  have he := Ext.upd ρ nx B 0 sz (hz := rfl)
  refine ⟨Nat.le_succ_of_le s.le, s.ext.trans s.le he, ⟨s.hr.glob, fun b o hb => ?_, fun b o hb => ?_, fun b b' o o' hb hb' e => ?_⟩, s.size, s.old, fun b hb => ?_, s.out⟩
  · rw [PT.get_set] at hb
    by_cases hx : nx = b
    · subst hx; rw [Rho.upd_ι]; exact hG
    · rw [if_neg hx] at hb
      rw [he.ι b (s.hr.obj b o hb).1]; exact s.hr.away b o hb
  · rw [PT.get_set] at hb
    by_cases hx : nx = b
    · subst hx; simp only [if_true, Option.some.injEq] at hb; subst hb; exact ⟨Nat.lt_succ_self _, ho⟩
    · rw [if_neg hx] at hb
      obtain ⟨h1, h2⟩ := s.hr.obj b o hb
      exact ⟨Nat.lt_succ_of_lt h1, h2.keep h1 (Nat.le_succ _) he rfl⟩
  · rw [PT.get_set] at hb hb'
    have key : ∀ c oc, h.get c = some oc → (ρ.upd nx B 0 sz).ι c ≠ B := fun c oc hc => by
      rw [he.ι c (s.hr.obj c oc hc).1]; exact hfree c ⟨oc, hc⟩
    by_cases hx : nx = b <;> by_cases hx' : nx = b'
    · omega
    · rw [if_neg hx'] at hb'
      subst hx; rw [Rho.upd_ι] at e
      exact absurd e.symm (key b' o' hb')
    · rw [if_neg hx] at hb
      subst hx'; rw [Rho.upd_ι] at e
      exact absurd e (key b o hb)
    · rw [if_neg hx] at hb; rw [if_neg hx'] at hb'
      rw [he.ι b (s.hr.obj b o hb).1, he.ι b' (s.hr.obj b' o' hb').1] at e
      exact s.hr.inj b b' o o' hb hb' e
  · by_cases hx : nx = b
    · subst hx; left; rw [Rho.upd_ι]; exact hB
    · obtain ⟨o, hb⟩ := hb
      rw [PT.get_set, if_neg hx] at hb
      rw [he.ι b (s.hr.obj b o hb).1]
      exact s.new b ⟨o, hb⟩
end
end Go.Ev
/-! THE EVALUATOR's SOUNDNESS, 24: the regions that draw: the invariant. -/
namespace Go.Ev
open Go
/-- What is known of a region that draws, its first and its second phase behind it. -/
structure Ph (E : Env) (rec : Rec) (N : Nat) (ops : Array Oper) (trs : List Tr) (sts : List Sg) (tmF : PT AV) (M : Nat) : Prop where
  drawn : Drawn ops
  hB : ∀ o ∈ ops.toList, ∀ t, o.dst = some t → t < N
  len : trs.length = ops.size
  lenS : sts.length = M + 1
  k0 : kOf trs M 0 = 0
  tr : ∀ (i : Nat) (o : Oper), ops[i]? = some o → ∃ t, trs[i]? = some t ∧ TrOk E rec ops.toList 0 sts M o t (tmOf trs tmF (i + 1)) (kOf trs M (i + 1))
  read : ∀ (i : Nat) (o : Oper) (t : Tr) (b : Nat), ops[i]? = some o → trs[i]? = some t → (befsOf ops.toList)[i]? = some b → readOk E ops.toList trs (befsOf ops.toList) sts o t b i = true
def Lst (listed : Array Bool) (i : Nat) : Prop := listed.getD i false = true
def Ahead (ops : Array Oper) (i j : Nat) : Prop := ∃ b, (befsOf ops.toList)[j]? = some b ∧ bit b i = true
def Float (ops : Array Oper) (f : Nat) (o : Oper) : Prop :=
  clsOf o = 2 ∧ (∃ t, o.op = .alloc t) ∧ (∀ (j : Nat) (oj : Oper), f < j → ops[j]? = some oj → Ahead ops f j → clsOf oj = 3 ∧ oj.guard = none) ∧ ∀ (d : Nat), o.dst = some d → ∀ (j : Nat) (oj : Oper), j ≠ f → ops[j]? = some oj → oj.dst ≠ some d
structure PendAt (E : Env) (ops : Array Oper) (ρ : Rho) (h : Hp) (w0 w : World) (a : Act) (Bk f : Nat) (o : Oper) : Prop where
  float : Float ops f o
  cells : ∀ t z, o.op = .alloc t → zero E t = some z → w.heap[Bk]? = some (.cells (concs ρ z.cells).toArray t (0, 0))
  new : w0.heap.size ≤ Bk
  off : Bk ≠ gB0
  lt : Bk < w.heap.size
  free : ∀ b, Live h b → ρ.ι b ≠ Bk
  tmp : ∀ d, o.dst = some d → a.tmps[d]? = some (.pointer (some ⟨Bk, 0, none⟩))
/-- The last that writes x ahead of number j has come up, and its value stands. -/
def Avail (ops : Array Oper) (trs : List Tr) (m : Nat) (listed : Array Bool) (j x : Nat) : Prop :=
  ∀ (i : Nat) (o : Oper), i < j → ops[i]? = some o → o.dst = some x → (∀ (i' : Nat) (o' : Oper), i < i' → i' < j → ops[i']? = some o' → o'.dst ≠ some x) →
    Lst listed i ∧ ∀ t, trs[i]? = some t → t.run = true → 2 ≤ clsOf o → t.k < m
structure Inv (E : Env) (P : Program) (N : Nat) (ops : Array Oper) (trs : List Tr) (sts : List Sg) (tmF : PT AV) (M : Nat) (ρ0 : Rho) (h0 : Hp) (nx0 : Nat) (w0 : World)
    (listed : Array Bool) (a : Act) (w : World) (m : Nat) (g : Sg) (ρ : Rho) (Bk : Nat → Nat) : Prop where
  size : listed.size = ops.size
  clo : ∀ i j, Lst listed j → Ahead ops i j → Lst listed i
  sg : sts[m]? = some g
  step : Step ρ0 h0 nx0 w0 ρ g.h g.nx w
  dr : DR ρ g.nx g.df a.defers
  asz : a.tmps.size = N
  done : ∀ (i : Nat) (o : Oper) (t : Tr), ops[i]? = some o → trs[i]? = some t → 2 ≤ clsOf o → t.run = true → t.k < m → Lst listed i
  pend : ∀ (i : Nat) (o : Oper) (t : Tr), ops[i]? = some o → trs[i]? = some t → 2 ≤ clsOf o → t.run = true → Lst listed i → m ≤ t.k → PendAt E ops ρ g.h w0 w a (Bk i) i o
  inj : ∀ (i i' : Nat) (o o' : Oper) (t t' : Tr), ops[i]? = some o → trs[i]? = some t → 2 ≤ clsOf o → t.run = true → Lst listed i → m ≤ t.k →
    ops[i']? = some o' → trs[i']? = some t' → 2 ≤ clsOf o' → t'.run = true → Lst listed i' → m ≤ t'.k → Bk i = Bk i' → i = i'
  tmps : ∀ (j x : Nat) (v : AV), j ≤ ops.size → (∀ o, ops[j]? = some o → ¬ Lst listed j ∧ x ∈ o.looksAt ops) → (tmOf trs tmF j).get x = some v → Avail ops trs m listed j x →
    Sc g.nx v ∧ a.tmps[x]? = some (conc ρ v)
/-- None waits at the stage that is reached. -/
def Settled (ops : Array Oper) (trs : List Tr) (listed : Array Bool) (m : Nat) : Prop :=
  ∀ (i : Nat) (o : Oper) (t : Tr), ops[i]? = some o → trs[i]? = some t → 2 ≤ clsOf o → t.run = true → Lst listed i → t.k ≠ m
section
variable {E : Env} {P : Program} {rec : Rec} {N : Nat} {ops : Array Oper} {trs : List Tr} {sts : List Sg} {tmF : PT AV} {M : Nat}
theorem Ph.kOf_lt (ph : Ph E rec N ops trs sts tmF M) {i : Nat} (hi : i < ops.size) : ∃ t, trs[i]? = some t ∧ kOf trs M i = t.k ∧ tmOf trs tmF i = t.tm := by
  have hi' : i < trs.length := by rw [ph.len]; exact hi
  exact ⟨trs[i], List.getElem?_eq_getElem hi', by unfold kOf; rw [List.getElem?_eq_getElem hi'], by unfold tmOf; rw [List.getElem?_eq_getElem hi']⟩
theorem Ph.kOf_step (ph : Ph E rec N ops trs sts tmF M) {i : Nat} {o : Oper} {t : Tr} (hi : ops[i]? = some o) (ht : trs[i]? = some t) :
    (kOf trs M (i + 1) = t.k ∨ (kOf trs M (i + 1) = t.k + 1 ∧ 2 ≤ clsOf o ∧ t.run = true)) := by
  obtain ⟨t', h1, h2⟩ := ph.tr i o hi
  rw [ht] at h1; cases h1
  cases hr : t.run with
  | false => exact .inl (h2.skip hr).2
  | true =>
    rcases Nat.lt_or_ge (clsOf o) 2 with hc | hc
    · have : clsOf o = 0 ∨ clsOf o = 1 := by omega
      rcases this with hc | hc
      · exact .inl (h2.pure hr hc).2
      · exact .inl (h2.read hr hc)
    · exact .inr ⟨(h2.acts hr hc).1, hc, rfl⟩
theorem Ph.kOf_mono (ph : Ph E rec N ops trs sts tmF M) {i : Nat} : ∀ {j : Nat}, i ≤ j → j ≤ ops.size → kOf trs M i ≤ kOf trs M j := by
  intro j hij
  induction j with
  | zero => intro _; have : i = 0 := by omega
            subst this; exact Nat.le_refl _
  | succ j ih =>
    intro hj
    rcases Nat.lt_or_ge i (j + 1) with h | h
    · have h1 := ih (by omega) (by omega)
      obtain ⟨t, ht, hk, _⟩ := ph.kOf_lt (show j < ops.size by omega)
      have ho : ops[j]? = some ops[j] := Array.getElem?_eq_getElem (by omega)
      rcases ph.kOf_step ho ht with h2 | ⟨h2, _⟩ <;> omega
    · have : i = j + 1 := by omega
      subst this; exact Nat.le_refl _
/-- Of two that act and ran the earlier has the lower stage. -/
theorem Ph.k_lt (ph : Ph E rec N ops trs sts tmF M) {i j : Nat} {oi oj : Oper} {ti tj : Tr} (hi : ops[i]? = some oi) (hti : trs[i]? = some ti) (hc : 2 ≤ clsOf oi) (hr : ti.run = true)
    (hj : ops[j]? = some oj) (htj : trs[j]? = some tj) (hij : i < j) : ti.k < tj.k := by
  have hjs : j < ops.size := (Array.getElem?_eq_some_iff.1 hj).1
  obtain ⟨t', h1, h2⟩ := ph.tr i oi hi
  rw [hti] at h1; cases h1
  have h3 := (h2.acts hr hc).1
  have h4 := ph.kOf_mono (i := i + 1) (j := j) (by omega) (by omega)
  obtain ⟨t2, h5, h6, _⟩ := ph.kOf_lt hjs
  rw [htj] at h5; cases h5
  omega
end
end Go.Ev
/-! THE EVALUATOR's SOUNDNESS, 25: the regions that draw: a waiting block is taken in. -/
namespace Go.Ev
open Go
section
variable {E : Env} {P : Program} {rec : Rec} {N : Nat} {ops : Array Oper} {trs : List Tr} {sts : List Sg} {tmF : PT AV} {M : Nat}
variable {ρ0 : Rho} {h0 : Hp} {nx0 : Nat} {w0 : World} {listed : Array Bool} {a : Act} {w : World} {m : Nat} {g : Sg} {ρ : Rho} {Bk : Nat → Nat}
theorem closed_conc {E : Env} {t : Nat} {z : AV} (hz : zero E t = some z) (ρ ρ' : Rho) : concs ρ z.cells = concs ρ' z.cells := by
  unfold zero at hz
  split at hz
  · split at hz
    · rename_i zv hzv
      have h1 := (ofV_ok ρ 0 _ _ _ hz).1
      have h2 := (ofV_ok ρ' 0 _ _ _ hz).1
      have h3 : (conc ρ z).cells = (conc ρ' z).cells := by rw [h1, h2]
      rw [cells_conc, cells_conc] at h3
      exact List.toArray_inj h3
    · cases hz
  · cases hz
theorem Ph.tm_keep (ph : Ph E rec N ops trs sts tmF M) {x i : Nat} : ∀ {j : Nat}, i ≤ j → j ≤ ops.size → (∀ (l : Nat) (o : Oper), i ≤ l → l < j → ops[l]? = some o → o.dst ≠ some x) →
    (tmOf trs tmF j).get x = (tmOf trs tmF i).get x := by
  intro j hij
  induction j with
  | zero => intro _ _; have : i = 0 := by omega
            subst this; rfl
  | succ j ih =>
    intro hj hn
    rcases Nat.lt_or_ge i (j + 1) with h | h
    · have h1 := ih (by omega) (by omega) fun l o h2 h3 h4 => hn l o h2 (by omega) h4
      have ho : ops[j]? = some ops[j] := Array.getElem?_eq_getElem (by omega)
      obtain ⟨t, h2, h3⟩ := ph.tr j _ ho
      obtain ⟨t', h4, _, h5⟩ := ph.kOf_lt (show j < ops.size by omega)
      rw [h2] at h4; cases h4
      rw [← h1, h5, h3.tm']
      have hd := hn j _ (by omega) (by omega) ho
      cases hdd : ops[j].dst with
      | none => rfl
      | some d =>
        show (t.tm.set d t.v).get x = _
        rw [PT.get_set, if_neg (fun e => hd (by rw [hdd, e]))]
    · have : i = j + 1 := by omega
      subst this; rfl
theorem Ph.tm_last (ph : Ph E rec N ops trs sts tmF M) {x i j : Nat} {o : Oper} {t : Tr} (hi : ops[i]? = some o) (ht : trs[i]? = some t) (hd : o.dst = some x) (hij : i < j) (hj : j ≤ ops.size)
    (hn : ∀ (l : Nat) (o : Oper), i < l → l < j → ops[l]? = some o → o.dst ≠ some x) : (tmOf trs tmF j).get x = some t.v := by
  rw [ph.tm_keep (i := i + 1) hij hj fun l o h1 h2 h3 => hn l o h1 h2 h3]
  obtain ⟨t', h2, h3⟩ := ph.tr i o hi
  rw [ht] at h2; cases h2
  rw [h3.tm', hd]
  exact PT.get_set_same ..
theorem absorb (hE : EnvOk E P) (ph : Ph E rec N ops trs sts tmF M) (I : Inv E P N ops trs sts tmF M ρ0 h0 nx0 w0 listed a w m g ρ Bk) {i : Nat} {o : Oper} {t : Tr} (hi : ops[i]? = some o) (ht : trs[i]? = some t)
    (hc : 2 ≤ clsOf o) (hr : t.run = true) (hL : Lst listed i) (hk : t.k = m) : ∃ g' ρ', Inv E P N ops trs sts tmF M ρ0 h0 nx0 w0 listed a w (m + 1) g' ρ' Bk := by
  have pd := I.pend i o t hi ht hc hr hL (by omega)
  obtain ⟨ty, hop⟩ := pd.float.2.1
  obtain ⟨t', e1, trok⟩ := ph.tr i o hi
  rw [ht] at e1; cases e1
  obtain ⟨_, g1, g2, k1, k2, k3⟩ := trok.acts hr hc
  rw [Nat.sub_zero] at k1 k2
  rw [hk, I.sg] at k1; cases k1
  rw [hk] at k2
  rw [hop] at k3
  have k3 : actR rec g.df g.h g.nx (Option.rec (motive := fun _ => O) .fail (fun z => .val (.ptr g.nx 0) (g.h.set g.nx (newObj ty z.cells)) (Nat.succ g.nx)) (zero E ty)) = some (t.v, g2.df, g2.h, g2.nx) := k3
  cases hz : zero E ty with
  | none => rw [hz] at k3; cases k3
  | some z =>
    rw [hz] at k3
    have k3 : some (AV.ptr g.nx 0, g.df, g.h.set g.nx (newObj ty z.cells), g.nx + 1) = some (t.v, g2.df, g2.h, g2.nx) := k3
    simp only [Option.some.injEq, Prod.mk.injEq] at k3
    obtain ⟨v1, v2, v3, v4⟩ := k3
    have hcell := pd.cells ty z hop hz
    have hzs : Scs g.nx z.cells := cells_Scs (hE.run_zero ρ g.nx hz w).2
    have st := adopt I.step (Bk i) pd.new pd.off pd.free (newObj ty z.cells) (concs ρ z.cells).toArray.size (by
      refine ⟨(concs ρ z.cells).toArray, (0, 0), by rw [Rho.upd_ι]; exact hcell, by simp, by simp, .inl rfl, fun j v hj hv => ?_⟩
      rw [cellAt_write] at hv
      simp only [len_eq] at hj
      rw [if_pos (by omega), Nat.sub_zero] at hv
      have hs := Scs_get hzs hv
      refine ⟨Sc.mono (Nat.le_succ _) v hs, ?_⟩
      rw [Rho.upd_β, Nat.zero_add, conc_ext (Ext.upd ρ g.nx _ _ _) v hs]
      simp [concs_get, hv])
    have he := Ext.upd ρ g.nx (Bk i) 0 (concs ρ z.cells).toArray.size (hz := rfl)
    refine ⟨g2, ρ.upd g.nx (Bk i) 0 (concs ρ z.cells).toArray.size, ⟨I.size, I.clo, k2, by rw [← v3, ← v4]; exact st, by rw [← v2, ← v4]; exact I.dr.ext he (Nat.le_succ _), I.asz, ?_, ?_, ?_, ?_⟩⟩
    · intro j oj tj hj htj hcj hrj hkj
      rcases Nat.lt_or_ge tj.k m with hlt | hge
      · exact I.done j oj tj hj htj hcj hrj hlt
      · rcases Nat.lt_trichotomy j i with h | h | h
        · have := ph.k_lt hj htj hcj hrj hi ht h; omega
        · subst h; exact hL
        · have := ph.k_lt hi ht hc hr hj htj h; omega
    · intro j oj tj hj htj hcj hrj hLj hkj
      have p := I.pend j oj tj hj htj hcj hrj hLj (by omega)
      refine ⟨p.float, fun ty' z' h1 h2 => by rw [closed_conc h2 _ ρ]; exact p.cells ty' z' h1 h2, p.new, p.off, p.lt, fun b hb => ?_, p.tmp⟩
      rw [← v3] at hb
      obtain ⟨ob, hb⟩ := hb
      rw [PT.get_set] at hb
      by_cases hx : g.nx = b
      · subst hx
        rw [Rho.upd_ι]
        intro e
        have := I.inj i j o oj t tj hi ht hc hr hL (by omega) hj htj hcj hrj hLj (by omega) e
        subst this
        rw [ht] at htj; cases htj; omega
      · rw [if_neg hx] at hb
        rw [he.ι b (I.step.hr.obj b ob hb).1]
        exact p.free b ⟨ob, hb⟩
    · intro j j' oj oj' tj tj' q1 q2 q3 q4 q5 q6 r1 r2 r3 r4 r5 r6 e
      exact I.inj j j' oj oj' tj tj' q1 q2 q3 q4 q5 (by omega) r1 r2 r3 r4 r5 (by omega) e
    · intro j x v hj hlook hv hav
      by_cases hlast : i < j ∧ o.dst = some x ∧ ∀ (l : Nat) (o : Oper), i < l → l < j → ops[l]? = some o → o.dst ≠ some x
      · obtain ⟨q1, q2, q3⟩ := hlast
        rw [ph.tm_last hi ht q2 q1 hj q3] at hv
        cases hv
        rw [← v1]
        refine ⟨by rw [← v4]; exact Nat.lt_succ_self _, ?_⟩
        rw [pd.tmp x q2]
        simp [conc, Rho.at]
      · have := I.tmps j x v hj hlook hv fun l ol hl1 hl2 hl3 hl4 => by
          obtain ⟨r1, r2⟩ := hav l ol hl1 hl2 hl3 hl4
          refine ⟨r1, fun tl htl hrl hcl => ?_⟩
          have hlt := r2 tl htl hrl hcl
          rcases Nat.lt_trichotomy l i with h | h | h
          · have := ph.k_lt hl2 htl hcl hrl hi ht h; omega
          · subst h
            rw [hi] at hl2; cases hl2
            exact absurd ⟨hl1, hl3, hl4⟩ hlast
          · have := ph.k_lt hi ht hc hr hl2 htl h; omega
        exact ⟨by rw [← v4]; exact Sc.mono (Nat.le_succ _) v this.1, by rw [conc_ext he v this.1]; exact this.2⟩
end
end Go.Ev
/-! THE EVALUATOR's SOUNDNESS, 26: the regions that draw: every step keeps the invariant. -/
namespace Go.Ev
open Go
section
variable {E : Env} {P : Program} {rec : Rec} {N : Nat} {ops : Array Oper} {trs : List Tr} {sts : List Sg} {tmF : PT AV} {M : Nat}
variable {ρ0 : Rho} {h0 : Hp} {nx0 : Nat} {w0 : World} {listed : Array Bool} {a : Act} {w : World} {Bk : Nat → Nat}
theorem settle (hE : EnvOk E P) (ph : Ph E rec N ops trs sts tmF M) : ∀ (n m : Nat) (g : Sg) (ρ : Rho), M + 1 - m = n → Inv E P N ops trs sts tmF M ρ0 h0 nx0 w0 listed a w m g ρ Bk →
    ∃ m' g' ρ', Inv E P N ops trs sts tmF M ρ0 h0 nx0 w0 listed a w m' g' ρ' Bk ∧ Settled ops trs listed m' := by
  intro n
  induction n with
  | zero =>
    intro m g ρ hn I
    have := (List.getElem?_eq_some_iff.1 I.sg).1
    rw [ph.lenS] at this
    omega
  | succ n ih =>
    intro m g ρ hn I
    by_cases hs : Settled ops trs listed m
    · exact ⟨m, g, ρ, I, hs⟩
    · unfold Settled at hs
      simp only [Classical.not_forall, Classical.not_not] at hs
      obtain ⟨i, o, t, hi, ht, hc, hr, hL, hk⟩ := hs
      obtain ⟨g', ρ', I'⟩ := absorb hE ph I hi ht hc hr hL (by simpa using hk)
      exact ih (m + 1) g' ρ' (by omega) I'
theorem lst_set {i j : Nat} (hs : listed.size = ops.size) (hi : i < ops.size) : Lst (listed.setIfInBounds i true) j ↔ j = i ∨ Lst listed j := by
  unfold Lst
  by_cases h : j = i
  · subst h
    simp [hs, hi]
  · rw [getD_set_ne false (fun e => h e.symm)]
    simp [h]
end
end Go.Ev
/-! THE EVALUATOR's SOUNDNESS, 27: the regions that draw: one more comes up. -/
namespace Go.Ev
open Go
section
variable {E : Env} {P : Program} {rec : Rec} {N : Nat} {ops : Array Oper} {trs : List Tr} {sts : List Sg} {tmF : PT AV} {M : Nat}
variable {ρ0 : Rho} {h0 : Hp} {nx0 : Nat} {w0 : World} {listed : Array Bool} {a : Act} {w : World} {m : Nat} {g : Sg} {ρ : Rho} {Bk : Nat → Nat}
/-- Of two in the text's order that are not apart the earlier comes ahead. -/
theorem Ph.ahead (ph : Ph E rec N ops trs sts tmF M) {i j : Nat} {oi oj : Oper} (hij : i < j) (hi : ops[i]? = some oi) (hj : ops[j]? = some oj) (hn : oi.apart ops oj = false) : Ahead ops i j := by
  obtain ⟨b, hb, _⟩ := befsOf_spec (l := ops.toList) (i := j) (o := oj) (by rw [Array.getElem?_toList]; exact hj)
  have := ph.drawn.pair i j oi oj b hij hi hj hb
  unfold pairOk at this
  cases hbit : bit b i with
  | true => exact ⟨b, hb, hbit⟩
  | false => rw [hbit, hn] at this; cases this
theorem not_apart_dst {oi oj : Oper} {d : Nat} (h1 : oi.dst = some d) (h2 : oj.dst = some d) : oi.apart ops oj = false := by
  cases h : oi.apart ops oj with
  | false => rfl
  | true => exact absurd h2 ((Oper.apart_spec h).2.1 d h1)
theorem not_apart_looks {oi oj : Oper} {d : Nat} (h1 : oi.dst = some d) (h2 : d ∈ oj.looksAt ops) : oi.apart ops oj = false := by
  cases h : oi.apart ops oj with
  | false => rfl
  | true => exact absurd h2 ((Oper.apart_spec h).1 d h1)
theorem not_apart_looks' {oi oj : Oper} {d : Nat} (h1 : oj.dst = some d) (h2 : d ∈ oi.looksAt ops) : oi.apart ops oj = false := by
  cases h : oi.apart ops oj with
  | false => rfl
  | true => exact absurd h2 ((Oper.apart_spec h).2.2 d h1)
/-- Who is ready: all ahead of it are listed. -/
theorem ready_ahead (ph : Ph E rec N ops trs sts tmF M) (clo : ∀ i j, Lst listed j → Ahead ops i j → Lst listed i) {i : Nat} (hi : i ∈ Region.ready .any ops listed) {j : Nat} (hj : Ahead ops j i) : Lst listed j := by
  obtain ⟨_, o, ho, hall⟩ := mem_ready.1 hi
  obtain ⟨b, hb, hspec⟩ := befsOf_spec (l := ops.toList) (i := i) (o := o) (by rw [Array.getElem?_toList]; exact ho)
  obtain ⟨b', hb', hbit⟩ := hj
  rw [hb] at hb'; cases hb'
  obtain ⟨e, he, hbi, hlt, mm, hmm, h⟩ := (hspec j).1 hbit
  have hL : Lst listed e.on := hall e (by simpa using he) hbi
  rcases h with h | h
  · exact clo j e.on hL ⟨mm, hmm, h⟩
  · rw [← h]; exact hL
theorem ahead_lt {i : Nat} : ∀ {j : Nat}, Ahead ops i j → i < j := by
  intro j
  induction j using Nat.strongRecOn with
  | _ j ih =>
    rintro ⟨b, hb, hbit⟩
    have hj : j < ops.toList.length := by rw [← befsOf_length]; exact (List.getElem?_eq_some_iff.1 hb).1
    obtain ⟨b', hb', hspec⟩ := befsOf_spec (l := ops.toList) (i := j) (o := ops.toList[j]) (List.getElem?_eq_getElem hj)
    rw [hb] at hb'; cases hb'
    obtain ⟨e, he, hbi, hlt, mm, hmm, h⟩ := (hspec i).1 hbit
    rcases h with h | h
    · exact Nat.lt_trans (ih e.on hlt ⟨mm, hmm, h⟩) hlt
    · omega
end
end Go.Ev
/-! THE EVALUATOR's SOUNDNESS, 28: the regions that draw: the temporaries behind one more. -/
namespace Go.Ev
open Go
section
variable {E : Env} {P : Program} {rec : Rec} {N : Nat} {ops : Array Oper} {trs : List Tr} {sts : List Sg} {tmF : PT AV} {M : Nat}
variable {ρ0 : Rho} {h0 : Hp} {nx0 : Nat} {w0 : World} {listed : Array Bool} {a : Act} {w : World} {m : Nat} {g : Sg} {ρ : Rho} {Bk : Nat → Nat}
theorem last_of {p : Nat → Prop} : ∀ (n l : Nat), l < n → p l → ∃ l', l ≤ l' ∧ l' < n ∧ p l' ∧ ∀ k, l' < k → k < n → ¬ p k
  | 0, l, h, _ => by omega
  | n + 1, l, h, hp => by
    by_cases hn : p n
    · exact ⟨n, by omega, by omega, hn, fun k h1 h2 => by omega⟩
    · rcases Nat.lt_or_ge l n with hl | hl
      · obtain ⟨l', h1, h2, h3, h4⟩ := last_of n l hl hp
        exact ⟨l', h1, by omega, h3, fun k h5 h6 => by
          rcases Nat.lt_or_ge k n with h7 | h7
          · exact h4 k h5 h7
          · have : k = n := by omega
            subst this; exact hn⟩
      · have : l = n := by omega
        subst this; exact absurd hp hn
theorem tmps_put (ph : Ph E rec N ops trs sts tmF M) (I : Inv E P N ops trs sts tmF M ρ0 h0 nx0 w0 listed a w m g ρ Bk) (hs : Settled ops trs listed m) {i : Nat} {o : Oper} {t : Tr} (hi : ops[i]? = some o) (ht : trs[i]? = some t)
    (hr : i ∈ Region.ready .any ops listed) {m' nx' : Nat} {ρ' : Rho} (hm : m' = m ∨ m' = m + 1) (he : Ext g.nx ρ ρ') (hle : g.nx ≤ nx') (hv : Sc nx' t.v) {tmps : Array Value} (htm : tmps = (a.put o.dst (conc ρ' t.v)).tmps) :
    ∀ (j x : Nat) (v : AV), j ≤ ops.size → (∀ o, ops[j]? = some o → ¬ Lst (listed.setIfInBounds i true) j ∧ x ∈ o.looksAt ops) → (tmOf trs tmF j).get x = some v → Avail ops trs m' (listed.setIfInBounds i true) j x →
      Sc nx' v ∧ tmps[x]? = some (conc ρ' v) := by
  intro j x v hj hlook hx hav
  have his : i < ops.size := (Array.getElem?_eq_some_iff.1 hi).1
  have hun : ¬ Lst listed i := fun h => by
    have h0 := (mem_ready.1 hr).1
    unfold Lst at h
    have hlt : i < listed.size := by rw [I.size]; exact his
    simp [hlt] at h h0
    rw [h] at h0; cases h0
  have hset : ∀ l, Lst (listed.setIfInBounds i true) l ↔ l = i ∨ Lst listed l := fun l => lst_set I.size his
  by_cases hd : o.dst = some x
  · rcases Nat.lt_trichotomy i j with hij | hij | hij
    · by_cases hlater : ∃ l ol, i < l ∧ l < j ∧ ops[l]? = some ol ∧ ol.dst = some x
      · obtain ⟨l, ol, q1, q2, q3, q4⟩ := hlater
        obtain ⟨l', r1, r2, ⟨r3, ol', r4, r5⟩, r6⟩ := last_of (p := fun l => i < l ∧ ∃ ol, ops[l]? = some ol ∧ ol.dst = some x) j l q2 ⟨q1, ol, q3, q4⟩
        obtain ⟨s1, _⟩ := hav l' ol' r2 r4 r5 fun k ok k1 k2 k3 k4 => r6 k k1 k2 ⟨by omega, ok, k3, k4⟩
        have s2 : Lst listed l' := by
          rcases (hset l').1 s1 with h | h
          · omega
          · exact h
        exact absurd (I.clo i l' s2 (ph.ahead r3 hi r4 (not_apart_dst hd r5))) hun
      · have := ph.tm_last hi ht hd hij hj fun l ol h1 h2 h3 h4 => hlater ⟨l, ol, h1, h2, h3, h4⟩
        rw [this] at hx
        cases hx
        refine ⟨hv, ?_⟩
        have hxN : x < a.tmps.size := by
          rw [I.asz]
          exact ph.hB o (List.mem_of_getElem? (by rw [Array.getElem?_toList]; exact hi)) x hd
        rw [htm, hd]
        simp [Act.put, hxN]
    · subst hij
      exact absurd ((hset i).2 (.inl rfl)) (hlook o hi).1
    · have hjs : ops[j]? = some ops[j] := Array.getElem?_eq_getElem (by omega)
      obtain ⟨l1, l2⟩ := hlook _ hjs
      have := ready_ahead ph I.clo hr (ph.ahead hij hjs hi (not_apart_looks' hd l2))
      exact absurd ((hset j).2 (.inr this)) l1
  · have old := I.tmps j x v hj (fun oj hoj => ⟨fun h => (hlook oj hoj).1 ((hset j).2 (.inr h)), (hlook oj hoj).2⟩) hx fun l ol l1 l2 l3 l4 => by
      obtain ⟨s1, s2⟩ := hav l ol l1 l2 l3 l4
      have s3 : Lst listed l := by
        rcases (hset l).1 s1 with h | h
        · subst h; rw [hi] at l2; cases l2; exact absurd l3 hd
        · exact h
      refine ⟨s3, fun tl h1 h2 h3 => ?_⟩
      have := s2 tl h1 h2 h3
      have := hs l ol tl l2 h1 h3 h2 s3
      omega
    refine ⟨Sc.mono hle v old.1, ?_⟩
    rw [htm, conc_ext he v old.1, ← old.2]
    cases hdd : o.dst with
    | none => rfl
    | some d =>
      have hne : d ≠ x := fun e => hd (by rw [hdd, e])
      simp [Act.put, Array.getElem?_setIfInBounds_ne hne]
end
end Go.Ev
/-! THE EVALUATOR's SOUNDNESS, 29: the regions that draw: one more that does not act. -/
namespace Go.Ev
open Go
section
variable {E : Env} {P : Program} {rec : Rec} {N : Nat} {ops : Array Oper} {trs : List Tr} {sts : List Sg} {tmF : PT AV} {M : Nat}
variable {ρ0 : Rho} {h0 : Hp} {nx0 : Nat} {w0 : World} {listed : Array Bool} {a : Act} {w : World} {m : Nat} {g : Sg} {ρ : Rho} {Bk : Nat → Nat}
theorem inv_flat (ph : Ph E rec N ops trs sts tmF M) (I : Inv E P N ops trs sts tmF M ρ0 h0 nx0 w0 listed a w m g ρ Bk) (hs : Settled ops trs listed m) {i : Nat} {o : Oper} {t : Tr} (hi : ops[i]? = some o) (ht : trs[i]? = some t)
    (hr : i ∈ Region.ready .any ops listed) (hno : ¬ (2 ≤ clsOf o ∧ t.run = true)) (hv : Sc g.nx t.v) :
    Inv E P N ops trs sts tmF M ρ0 h0 nx0 w0 (listed.setIfInBounds i true) (a.put o.dst (conc ρ t.v)) w m g ρ Bk ∧ Settled ops trs (listed.setIfInBounds i true) m := by
  have his : i < ops.size := (Array.getElem?_eq_some_iff.1 hi).1
  have hset : ∀ l, Lst (listed.setIfInBounds i true) l ↔ l = i ∨ Lst listed l := fun l => lst_set I.size his
  have old : ∀ (j : Nat) (oj : Oper) (tj : Tr), ops[j]? = some oj → trs[j]? = some tj → 2 ≤ clsOf oj → tj.run = true → Lst (listed.setIfInBounds i true) j → j ≠ i ∧ Lst listed j := fun j oj tj q1 q2 q3 q4 q5 => by
    rcases (hset j).1 q5 with h | h
    · subst h; rw [hi] at q1; cases q1; rw [ht] at q2; cases q2; exact absurd ⟨q3, q4⟩ hno
    · refine ⟨fun e => ?_, h⟩
      subst e; rw [hi] at q1; cases q1; rw [ht] at q2; cases q2; exact absurd ⟨q3, q4⟩ hno
  refine ⟨⟨by simp [I.size], ?_, I.sg, I.step, by rw [put_defers]; exact I.dr, by rw [put_size]; exact I.asz, ?_, ?_, ?_, ?_⟩, ?_⟩
  · intro i' j hL hA
    rcases (hset j).1 hL with h | h
    · subst h; exact (hset i').2 (.inr (ready_ahead ph I.clo hr hA))
    · exact (hset i').2 (.inr (I.clo i' j h hA))
  · intro j oj tj q1 q2 q3 q4 q5; exact (hset j).2 (.inr (I.done j oj tj q1 q2 q3 q4 q5))
  · intro j oj tj q1 q2 q3 q4 q5 q6
    obtain ⟨hne, hL⟩ := old j oj tj q1 q2 q3 q4 q5
    have p := I.pend j oj tj q1 q2 q3 q4 hL q6
    refine ⟨p.float, p.cells, p.new, p.off, p.lt, p.free, fun d hd => ?_⟩
    have hnd := p.float.2.2.2 d hd i o (Ne.symm hne) hi
    rw [← p.tmp d hd]
    cases hdd : o.dst with
    | none => rfl
    | some d' =>
      have : d' ≠ d := fun e => hnd (by rw [hdd, e])
      simp [Act.put, Array.getElem?_setIfInBounds_ne this]
  · intro j j' oj oj' tj tj' q1 q2 q3 q4 q5 q6 r1 r2 r3 r4 r5 r6 e
    exact I.inj j j' oj oj' tj tj' q1 q2 q3 q4 (old j oj tj q1 q2 q3 q4 q5).2 q6 r1 r2 r3 r4 (old j' oj' tj' r1 r2 r3 r4 r5).2 r6 e
  · exact tmps_put ph I hs hi ht hr (.inl rfl) (Ext.refl _ _) (Nat.le_refl _) hv rfl
  · intro j oj tj q1 q2 q3 q4 q5
    exact hs j oj tj q1 q2 q3 q4 (old j oj tj q1 q2 q3 q4 q5).2
end
end Go.Ev
/-! THE EVALUATOR's SOUNDNESS, 30: the regions that draw: one more that acts. -/
namespace Go.Ev
open Go
section
variable {E : Env} {P : Program} {rec : Rec} {N : Nat} {ops : Array Oper} {trs : List Tr} {sts : List Sg} {tmF : PT AV} {M : Nat}
variable {ρ0 : Rho} {h0 : Hp} {nx0 : Nat} {w0 : World} {listed : Array Bool} {a : Act} {w : World} {m : Nat} {g : Sg} {ρ : Rho} {Bk : Nat → Nat}
theorem inv_acts (ph : Ph E rec N ops trs sts tmF M) (I : Inv E P N ops trs sts tmF M ρ0 h0 nx0 w0 listed a w m g ρ Bk) (hs : Settled ops trs listed m) {i : Nat} {o : Oper} {t : Tr} (hi : ops[i]? = some o) (ht : trs[i]? = some t)
    (hr : i ∈ Region.ready .any ops listed) (hc : 2 ≤ clsOf o) (hrun : t.run = true) (hk : t.k = m) {g' : Sg} (hg' : sts[m + 1]? = some g') {ρ1 : Rho} {w1 : World} {a1 : Act} (s1 : Step ρ g.h g.nx w ρ1 g'.h g'.nx w1) (hv : Sc g'.nx t.v)
    (hdr : DR ρ1 g'.nx g'.df a1.defers) (htm : a1.tmps = (a.put o.dst (conc ρ1 t.v)).tmps) :
    Inv E P N ops trs sts tmF M ρ0 h0 nx0 w0 (listed.setIfInBounds i true) a1 w1 (m + 1) g' ρ1 Bk := by
  have his : i < ops.size := (Array.getElem?_eq_some_iff.1 hi).1
  have hset : ∀ l, Lst (listed.setIfInBounds i true) l ↔ l = i ∨ Lst listed l := fun l => lst_set I.size his
  have old : ∀ (j : Nat) (oj : Oper) (tj : Tr), ops[j]? = some oj → trs[j]? = some tj → 2 ≤ clsOf oj → tj.run = true → Lst (listed.setIfInBounds i true) j → m + 1 ≤ tj.k → j ≠ i ∧ Lst listed j := fun j oj tj q1 q2 q3 q4 q5 q6 => by
    have hne : j ≠ i := fun e => by subst e; rw [ht] at q2; cases q2; omega
    rcases (hset j).1 q5 with h | h
    · exact absurd h hne
    · exact ⟨hne, h⟩
  refine ⟨by simp [I.size], ?_, hg', I.step.trans s1, hdr, by rw [htm, put_size]; exact I.asz, ?_, ?_, ?_, ?_⟩
  · intro i' j hL hA
    rcases (hset j).1 hL with h | h
    · subst h; exact (hset i').2 (.inr (ready_ahead ph I.clo hr hA))
    · exact (hset i').2 (.inr (I.clo i' j h hA))
  · intro j oj tj q1 q2 q3 q4 q5
    rcases Nat.lt_trichotomy j i with h | h | h
    · have := ph.k_lt q1 q2 q3 q4 hi ht h; exact (hset j).2 (.inr (I.done j oj tj q1 q2 q3 q4 (by omega)))
    · exact (hset j).2 (.inl h)
    · have := ph.k_lt hi ht hc hrun q1 q2 h; omega
  · intro j oj tj q1 q2 q3 q4 q5 q6
    obtain ⟨hne, hL⟩ := old j oj tj q1 q2 q3 q4 q5 q6
    have p := I.pend j oj tj q1 q2 q3 q4 hL (by omega)
    refine ⟨p.float, fun ty z h1 h2 => ?_, p.new, p.off, Nat.lt_of_lt_of_le p.lt s1.size, fun b hb => ?_, fun d hd => ?_⟩
    · rw [s1.old _ p.lt p.free, closed_conc h2 ρ1 ρ]; exact p.cells ty z h1 h2
    · rcases s1.new b hb with h | ⟨b', h1, h2⟩
      · have := p.lt; omega
      · rw [h2]; exact p.free b' h1
    · have hnd := p.float.2.2.2 d hd i o (Ne.symm hne) hi
      rw [← p.tmp d hd, htm]
      cases hdd : o.dst with
      | none => rfl
      | some d' =>
        have : d' ≠ d := fun e => hnd (by rw [hdd, e])
        simp [Act.put, Array.getElem?_setIfInBounds_ne this]
  · intro j j' oj oj' tj tj' q1 q2 q3 q4 q5 q6 r1 r2 r3 r4 r5 r6 e
    exact I.inj j j' oj oj' tj tj' q1 q2 q3 q4 (old j oj tj q1 q2 q3 q4 q5 q6).2 (by omega) r1 r2 r3 r4 (old j' oj' tj' r1 r2 r3 r4 r5 r6).2 (by omega) e
  · exact tmps_put ph I hs hi ht hr (.inr rfl) s1.ext s1.le hv htm
end
end Go.Ev
/-! THE EVALUATOR's SOUNDNESS, 31: the regions that draw: an alloc that comes up ahead of its stage. -/
namespace Go.Ev
open Go
section
variable {E : Env} {P : Program} {rec : Rec} {N : Nat} {ops : Array Oper} {trs : List Tr} {sts : List Sg} {tmF : PT AV} {M : Nat}
variable {ρ0 : Rho} {h0 : Hp} {nx0 : Nat} {w0 : World} {listed : Array Bool} {a : Act} {w : World} {m : Nat} {g : Sg} {ρ : Rho} {Bk : Nat → Nat}
theorem inv_float (ph : Ph E rec N ops trs sts tmF M) (I : Inv E P N ops trs sts tmF M ρ0 h0 nx0 w0 listed a w m g ρ Bk) (hs : Settled ops trs listed m) {i : Nat} {o : Oper} {t : Tr} (hi : ops[i]? = some o) (ht : trs[i]? = some t)
    (hr : i ∈ Region.ready .any ops listed) (hc : 2 ≤ clsOf o) (hrun : t.run = true) (hk : m ≤ t.k) (hf : Float ops i o) {w1 : World} {c : Array Value} {ty : Nat} (hop : o.op = .alloc ty)
    (hw : w1.heap = w.heap.push (.cells c ty (0, 0))) (hout : SameOut w w1) (hz : ∀ z, zero E ty = some z → c = (concs ρ z.cells).toArray) :
    Inv E P N ops trs sts tmF M ρ0 h0 nx0 w0 (listed.setIfInBounds i true) (a.put o.dst (.pointer (some ⟨w.heap.size, 0, none⟩))) w1 m g ρ (fun x => if x = i then w.heap.size else Bk x) := by
  have his : i < ops.size := (Array.getElem?_eq_some_iff.1 hi).1
  have hset : ∀ l, Lst (listed.setIfInBounds i true) l ↔ l = i ∨ Lst listed l := fun l => lst_set I.size his
  have hgr : Grown w w1 := ⟨by rw [hw]; simp, fun B hB => (by rw [hw, Array.getElem?_push, if_neg (by omega)]), hout⟩
  have hun : ¬ Lst listed i := fun h => by
    have h0 := (mem_ready.1 hr).1
    unfold Lst at h
    have hlt : i < listed.size := by rw [I.size]; exact his
    simp [hlt] at h h0
    rw [h] at h0; cases h0
  have hBlt : w.heap.size < w1.heap.size := by rw [hw]; simp
  have other : ∀ j, j ≠ i → (if j = i then w.heap.size else Bk j) = Bk j := fun j h => if_neg h
  refine ⟨by simp [I.size], ?_, I.sg, I.step.grown hgr, by rw [put_defers]; exact I.dr, by rw [put_size]; exact I.asz, ?_, ?_, ?_, ?_⟩
  · intro i' j hL hA
    rcases (hset j).1 hL with h | h
    · subst h; exact (hset i').2 (.inr (ready_ahead ph I.clo hr hA))
    · exact (hset i').2 (.inr (I.clo i' j h hA))
  · intro j oj tj q1 q2 q3 q4 q5; exact (hset j).2 (.inr (I.done j oj tj q1 q2 q3 q4 q5))
  · intro j oj tj q1 q2 q3 q4 q5 q6
    by_cases hj : j = i
    · subst hj
      rw [hi] at q1; cases q1
      show PendAt E ops ρ g.h w0 w1 _ (if j = j then w.heap.size else Bk j) j o
      rw [if_pos rfl]
      refine ⟨hf, fun ty' z h1 h2 => ?_, I.step.size, Nat.ne_of_gt I.step.hr.glob.lt, hBlt, fun b hb e => ?_, fun d hd => ?_⟩
      · rw [hop] at h1; cases h1
        rw [hw, ← hz z h2]; simp
      · have := I.step.hr.lt hb; omega
      · have hdN : d < a.tmps.size := by
          rw [I.asz]
          exact ph.hB o (List.mem_of_getElem? (by rw [Array.getElem?_toList]; exact hi)) d hd
        rw [hd]; simp [Act.put, hdN]
    · have hL : Lst listed j := ((hset j).1 q5).resolve_left hj
      have p := I.pend j oj tj q1 q2 q3 q4 hL q6
      show PendAt E ops ρ g.h w0 w1 _ (if j = i then w.heap.size else Bk j) j oj
      rw [if_neg hj]
      refine ⟨p.float, fun ty' z h1 h2 => by rw [hgr.2.1 _ p.lt]; exact p.cells ty' z h1 h2, p.new, p.off, Nat.lt_of_lt_of_le p.lt hgr.1, p.free, fun d hd => ?_⟩
      have hnd := p.float.2.2.2 d hd i o (Ne.symm hj) hi
      rw [← p.tmp d hd]
      cases hdd : o.dst with
      | none => rfl
      | some d' =>
        have : d' ≠ d := fun e => hnd (by rw [hdd, e])
        simp [Act.put, Array.getElem?_setIfInBounds_ne this]
  · intro j j' oj oj' tj tj' q1 q2 q3 q4 q5 q6 r1 r2 r3 r4 r5 r6 e
    by_cases hj : j = i <;> by_cases hj' : j' = i
    · rw [hj, hj']
    · have hL := ((hset j').1 r5).resolve_left hj'
      have p := I.pend j' oj' tj' r1 r2 r3 r4 hL r6
      have hlt := p.lt
      simp only [if_pos hj, if_neg hj'] at e
      omega
    · have hL := ((hset j).1 q5).resolve_left hj
      have p := I.pend j oj tj q1 q2 q3 q4 hL q6
      have hlt := p.lt
      simp only [if_neg hj, if_pos hj'] at e
      omega
    · simp only [if_neg hj, if_neg hj'] at e
      exact I.inj j j' oj oj' tj tj' q1 q2 q3 q4 (((hset j).1 q5).resolve_left hj) q6 r1 r2 r3 r4 (((hset j').1 r5).resolve_left hj') r6 e
  · intro j x v hj hlook hx hav
    by_cases hd : o.dst = some x
    · rcases Nat.lt_trichotomy i j with hij | hij | hij
      · by_cases hlater : ∃ l ol, i < l ∧ l < j ∧ ops[l]? = some ol ∧ ol.dst = some x
        · obtain ⟨l, ol, q1, q2, q3, q4⟩ := hlater
          exact absurd q4 (hf.2.2.2 x hd l ol (by omega) q3)
        · obtain ⟨_, h2⟩ := hav i o hij hi hd fun l ol h1 h2 h3 h4 => hlater ⟨l, ol, h1, h2, h3, h4⟩
          have := h2 t ht hrun hc
          omega
      · subst hij
        exact absurd ((hset i).2 (.inl rfl)) (hlook o hi).1
      · have hjs : ops[j]? = some ops[j] := Array.getElem?_eq_getElem (by omega)
        obtain ⟨l1, l2⟩ := hlook _ hjs
        have := ready_ahead ph I.clo hr (ph.ahead hij hjs hi (not_apart_looks' hd l2))
        exact absurd ((hset j).2 (.inr this)) l1
    · have old := I.tmps j x v hj (fun oj hoj => ⟨fun h => (hlook oj hoj).1 ((hset j).2 (.inr h)), (hlook oj hoj).2⟩) hx fun l ol l1 l2 l3 l4 => by
        obtain ⟨s1, s2⟩ := hav l ol l1 l2 l3 l4
        refine ⟨?_, s2⟩
        rcases (hset l).1 s1 with h | h
        · subst h; rw [hi] at l2; cases l2; exact absurd l3 hd
        · exact h
      refine ⟨old.1, ?_⟩
      rw [← old.2]
      cases hdd : o.dst with
      | none => rfl
      | some d =>
        have hne : d ≠ x := fun e => hd (by rw [hdd, e])
        simp [Act.put, Array.getElem?_setIfInBounds_ne hne]
end
end Go.Ev
/-! THE EVALUATOR's SOUNDNESS, 32: the regions that draw: the whole. -/
namespace Go.Ev
open Go
theorem op_flat (E : Env) (s : PT AV) (h : Hp) (nx nx' : Nat) (o : Oper) (hc : clsOf o = 0) : op E s h nx o.op = op E s h nx' o.op := by
  unfold clsOf at hc
  generalize o.op = q at hc
  cases q with
  | call c =>
    show callOp E s h nx c = callOp E s h nx' c
    have hc : (match c.callee with | .builtin b => (match b with | .len => 1 | .cap => 0 | .min => 0 | .max => 0 | _ => 3) | _ => 3) = 0 := hc
    unfold callOp
    cases evalOps s c.args.toList with
    | none => rfl
    | some args =>
      cases hb : c.callee with
      | value f => rfl
      | invoke r m => rfl
      | builtin b =>
        rw [hb] at hc
        simp only
        cases b <;> first
          | (cases hc; done)
          | (rcases args with _ | ⟨x, _ | ⟨y, _ | ⟨z, l⟩⟩⟩ <;> first | rfl | (cases c.argTypes.toList <;> rfl))
  | _ => first | rfl | (exact absurd (show (1 : Nat) = 0 from hc) (by decide)) | (exact absurd (show (2 : Nat) = 0 from hc) (by decide)) | (exact absurd (show (3 : Nat) = 0 from hc) (by decide))
def unl (l : List Bool) : Nat := l.count false
theorem unl_set : ∀ (l : List Bool) (i : Nat), l[i]? = some false → unl (l.set i true) + 1 = unl l
  | [], i, h => by simp at h
  | b :: l, 0, h => by
    simp only [List.getElem?_cons_zero, Option.some.injEq] at h
    subst h
    simp [unl]
  | b :: l, i + 1, h => by
    have ih := unl_set l i (by simpa using h)
    unfold unl at ih ⊢
    rw [List.set_cons_succ, List.count_cons, List.count_cons]
    omega
theorem unl_pos {l : List Bool} {i : Nat} (h : l[i]? = some false) : 0 < unl l := by
  have := unl_set l i h; omega
section
variable {E : Env} {P : Program} {rec : Rec} {N : Nat} {ops : Array Oper} {trs : List Tr} {sts : List Sg} {tmF : PT AV} {M : Nat}
variable {ρ0 : Rho} {h0 : Hp} {nx0 : Nat} {w0 : World} {listed : Array Bool} {a : Act} {w : World} {m : Nat} {g : Sg} {ρ : Rho} {Bk : Nat → Nat}
/-- At each stage one acts. -/
theorem Ph.actor (ph : Ph E rec N ops trs sts tmF M) {n : Nat} : ∀ {i : Nat}, i ≤ ops.size → n < kOf trs M i → ∃ j o t, j < i ∧ ops[j]? = some o ∧ trs[j]? = some t ∧ 2 ≤ clsOf o ∧ t.run = true ∧ t.k = n := by
  intro i
  induction i with
  | zero => intro _ h; rw [ph.k0] at h; omega
  | succ i ih =>
    intro hi h
    have ho : ops[i]? = some ops[i] := Array.getElem?_eq_getElem (by omega)
    obtain ⟨t, ht, hk, _⟩ := ph.kOf_lt (show i < ops.size by omega)
    rcases Nat.lt_or_ge n (kOf trs M i) with h1 | h1
    · obtain ⟨j, o, t', q1, q2⟩ := ih (by omega) h1
      exact ⟨j, o, t', by omega, q2⟩
    · rcases ph.kOf_step ho ht with h2 | ⟨h2, h3, h4⟩
      · omega
      · exact ⟨i, _, t, by omega, ho, ht, h3, h4, by omega⟩
theorem unlisted {i : Nat} (hr : i ∈ Region.ready .any ops listed) (hs : listed.size = ops.size) : ¬ Lst listed i ∧ listed.toList[i]? = some false := by
  obtain ⟨h0, o, ho, _⟩ := mem_ready.1 hr
  have his : i < listed.size := by rw [hs]; exact (Array.getElem?_eq_some_iff.1 ho).1
  simp only [Array.getD_eq_getD_getElem?, Array.getElem?_eq_getElem his, Option.getD_some] at h0
  refine ⟨fun h => ?_, by rw [Array.getElem?_toList, Array.getElem?_eq_getElem his, h0]⟩
  unfold Lst at h
  simp only [Array.getD_eq_getD_getElem?, Array.getElem?_eq_getElem his, Option.getD_some] at h
  rw [h] at h0; cases h0
theorem allListed (dr : Drawn ops) (hs : listed.size = ops.size) (hr : Region.ready .any ops listed = []) : ∀ i, i < ops.size → Lst listed i := by
  intro i
  induction i using Nat.strongRecOn with
  | _ i ih =>
    intro hi
    have ho : ops[i]? = some ops[i] := Array.getElem?_eq_getElem hi
    have hl : i < listed.size := by omega
    cases hb : listed[i] with
    | true => unfold Lst; simp [hl, hb]
    | false =>
      exfalso
      have : i ∈ Region.ready .any ops listed := mem_ready.2 ⟨by simp [hl, hb], _, ho, fun e he hbi => ?_⟩
      · rw [hr] at this; cases this
      · have hlt := dr.back i _ ho e he hbi
        exact ih e.on hlt (by omega)
/-- Who acts, is ready and is no float is the next. -/
theorem next_k (ph : Ph E rec N ops trs sts tmF M) (I : Inv E P N ops trs sts tmF M ρ0 h0 nx0 w0 listed a w m g ρ Bk) (hs : Settled ops trs listed m) {i : Nat} {o : Oper} {t : Tr} (hi : ops[i]? = some o) (ht : trs[i]? = some t)
    (hr : i ∈ Region.ready .any ops listed) (hc : 2 ≤ clsOf o) (hrun : t.run = true) (hnf : clsOf o = 3 ∨ ¬ Float ops i o) : t.k = m := by
  have hun := (unlisted hr I.size).1
  have his : i < ops.size := (Array.getElem?_eq_some_iff.1 hi).1
  have hge : m ≤ t.k := by
    rcases Nat.lt_or_ge t.k m with h | h
    · exact absurd (I.done i o t hi ht hc hrun h) hun
    · exact h
  rcases Nat.lt_or_ge m t.k with hlt | hle
  · exfalso
    obtain ⟨t', ht', hk, _⟩ := ph.kOf_lt his
    rw [ht] at ht'; cases ht'
    obtain ⟨j, oj, tj, q1, q2, q3, q4, q5, q6⟩ := ph.actor (n := m) (Nat.le_of_lt his) (by rw [hk]; exact hlt)
    have hA : Ahead ops j i := by
      obtain ⟨b, hb, _⟩ := befsOf_spec (l := ops.toList) (i := i) (o := o) (by rw [Array.getElem?_toList]; exact hi)
      have hp := ph.drawn.pair j i oj o b q1 q2 hi hb
      cases hbit : bit b j with
      | true => exact ⟨b, hb, hbit⟩
      | false =>
        exfalso
        have l1 := clsOf_le o
        have l2 := clsOf_le oj
        have hci : clsOf o = 2 ∨ clsOf o = 3 := by omega
        have hcj : clsOf oj = 2 ∨ clsOf oj = 3 := by omega
        unfold pairOk at hp
        rw [hbit] at hp
        simp only at hp
        split at hp
        case h_2 => cases hp
        rcases hcj with hcj | hcj
        · rcases hci with hci | hci <;> rw [hcj, hci] at hp <;> cases hp
        · rcases hci with hci | hci
          · rcases ph.drawn.floats i o b hi hb hci with h | ⟨h1, h2, h3⟩
            · rw [h j oj q1 q2 hcj] at hbit; cases hbit
            · rcases hnf with h | h
              · omega
              · refine h ⟨hci, h1, fun j' oj' r1 r2 r3 => ?_, h3⟩
                obtain ⟨b', r4, r5⟩ := r3
                exact h2 j' oj' b' r1 r2 r4 r5
          · rw [hcj, hci] at hp; cases hp
    have hL := ready_ahead ph I.clo hr hA
    exact hs j oj tj q2 q3 q4 q5 hL q6
  · omega
/-- What a ready one looks at is there. -/
theorem ready_tr (ph : Ph E rec N ops trs sts tmF M) (I : Inv E P N ops trs sts tmF M ρ0 h0 nx0 w0 listed a w m g ρ Bk) (hs : Settled ops trs listed m) {i : Nat} {o : Oper} {t : Tr} (hi : ops[i]? = some o) (ht : trs[i]? = some t)
    (hr : i ∈ Region.ready .any ops listed) : TR ρ g.nx (restr t.tm (o.looksAt ops)) a.tmps := by
  intro x v hx
  rw [restr_get] at hx
  split at hx
  case isFalse => cases hx
  rename_i hmem
  have his : i < ops.size := (Array.getElem?_eq_some_iff.1 hi).1
  have hun := (unlisted hr I.size).1
  refine I.tmps i x v (Nat.le_of_lt his) (fun o' ho' => ?_) ?_ ?_
  · rw [hi] at ho'; cases ho'; exact ⟨hun, hmem⟩
  · obtain ⟨t', h1, _, h2⟩ := ph.kOf_lt his
    rw [ht] at h1; cases h1
    rw [h2]; exact hx
  · intro l ol l1 l2 l3 l4
    have hA := ph.ahead l1 l2 hi (not_apart_looks l3 hmem)
    have hL := ready_ahead ph I.clo hr hA
    refine ⟨hL, fun tl k1 k2 k3 => ?_⟩
    rcases Nat.lt_or_ge tl.k m with h | h
    · exact h
    · exfalso
      obtain ⟨c1, c2⟩ := (I.pend l ol tl l2 k1 k3 k2 hL h).float.2.2.1 i o l1 hi hA
      obtain ⟨t', h1, h2⟩ := ph.tr i o hi
      rw [ht] at h1; cases h1
      have hrun : t.run = true := by
        have := h2.want
        unfold wantO at this
        rw [c2] at this
        simpa using this.symm
      have := next_k ph I hs hi ht hr (by omega) hrun (.inl c1)
      have := ph.k_lt l2 k1 k3 k2 hi ht l1
      omega
theorem alloc_run (hE : EnvOk E P) {o : Oper} {ty : Nat} (ho : o.op = .alloc ty) {z : AV} (hz : zero E ty = some z) (ρ : Rho) (a : Act) (w : World) :
    ∃ w1, (execOp a.eval o).run P w = .ok (.value (.pointer (some ⟨w.heap.size, 0, none⟩))) w1 ∧ w1.heap = w.heap.push (.cells (concs ρ z.cells).toArray ty (0, 0)) ∧ SameOut w w1 := by
  obtain ⟨hrun, hsc⟩ := hE.run_zero ρ 0 hz w
  refine ⟨{ w with heap := w.heap.push (.cells (concs ρ z.cells).toArray ty (0, 0)) }, ?_, rfl, ⟨rfl, rfl⟩⟩
  have h1 : execOp a.eval o = (do let v ← Instr.alloc ty true (.tuple #[]); pure (.value v)) := by simp [execOp, ho]
  rw [h1]
  simp [Instr.alloc, hrun, newVar, newRow, cells_conc]
theorem any_ok {dfF : List ADef} {hF : Hp} {nxF : Nat} (hE : EnvOk E P) (hcall : ∀ f args h nx, CallOk P f args h nx (rec (.call f args) .nil [] h nx)) (ph : Ph E rec N ops trs sts tmF M) (hlast : sts[M]? = some ⟨hF, nxF, dfF⟩) :
    ∀ (fuel : Nat) (listed : Array Bool) (a : Act) (w : World) (m : Nat) (g : Sg) (ρ : Rho) (Bk : Nat → Nat), Inv E P N ops trs sts tmF M ρ0 h0 nx0 w0 listed a w m g ρ Bk → unl listed.toList ≤ fuel →
      wpAny P .any ops (Post ρ0 h0 nx0 w0 N .normal tmF dfF hF nxF) fuel listed a w := by
  -- the end
  have fin : ∀ (listed : Array Bool) (a : Act) (w : World) (m : Nat) (g : Sg) (ρ : Rho) (Bk : Nat → Nat), Inv E P N ops trs sts tmF M ρ0 h0 nx0 w0 listed a w m g ρ Bk → Settled ops trs listed m →
      Region.ready .any ops listed = [] → Post ρ0 h0 nx0 w0 N .normal tmF dfF hF nxF .normal a w := fun listed a w m g ρ Bk I hs hr => by
    have hall := allListed ph.drawn I.size hr
    have hmM : m ≤ M := by
      have := (List.getElem?_eq_some_iff.1 I.sg).1
      rw [ph.lenS] at this; omega
    have hkM : kOf trs M ops.size = M := by
      unfold kOf
      rw [List.getElem?_eq_none (by rw [ph.len]; exact Nat.le_refl _)]
    have hm : m = M := by
      rcases Nat.lt_or_ge m M with h | h
      · obtain ⟨j, oj, tj, q1, q2, q3, q4, q5, q6⟩ := ph.actor (n := m) (Nat.le_refl _) (by rw [hkM]; exact h)
        exact absurd q6 (hs j oj tj q2 q3 q4 q5 (hall j q1))
      · omega
    subst hm
    have hg := I.sg
    rw [hlast] at hg
    cases hg
    refine .inr ⟨rfl, ρ, I.step, I.step.hr, fun x v hx => ?_, I.dr, I.asz⟩
    refine I.tmps ops.size x v (Nat.le_refl _) (fun o ho => by simp at ho) ?_ ?_
    · unfold tmOf
      rw [List.getElem?_eq_none (by rw [ph.len]; exact Nat.le_refl _)]
      exact hx
    · intro l ol l1 l2 l3 l4
      refine ⟨hall l l1, fun tl k1 k2 k3 => ?_⟩
      obtain ⟨t', h1, h2⟩ := ph.tr l ol l2
      rw [k1] at h1; cases h1
      have h3 := (h2.acts k2 k3).1
      have h4 := ph.kOf_mono (i := l + 1) (j := ops.size) (by omega) (Nat.le_refl _)
      omega
  intro fuel
  induction fuel with
  | zero =>
    intro listed a w m g ρ Bk I hf
    obtain ⟨m, g, ρ, I, hs⟩ := settle hE ph _ _ _ _ rfl I
    have hr : Region.ready .any ops listed = [] := by
      cases hrr : Region.ready .any ops listed with
      | nil => rfl
      | cons i l =>
        have := unl_pos (unlisted (i := i) (by rw [hrr]; simp) I.size).2
        omega
    exact ⟨hr, fin _ _ _ _ _ _ _ I hs hr⟩
  | succ fuel ih =>
    intro listed a w m g ρ Bk I hf
    obtain ⟨m, g, ρ, I, hs⟩ := settle hE ph _ _ _ _ rfl I
    refine ⟨fun hr => fin _ _ _ _ _ _ _ I hs hr, fun i hr => ?_⟩
    obtain ⟨_, o, hi, _⟩ := mem_ready.1 hr
    obtain ⟨hun, hfalse⟩ := unlisted hr I.size
    have hf' : unl (listed.setIfInBounds i true).toList ≤ fuel := by
      rw [Array.toList_setIfInBounds]
      have := unl_set _ i hfalse
      omega
    obtain ⟨t, ht, hok⟩ := ph.tr i o hi
    have hT := ready_tr ph I hs hi ht hr
    have hw : Region.wanted o (yielded ops a.tmps) = t.run := wantO_ok hT (by rw [wantO_restr]; exact hok.want)
    unfold Go.wpOp
    simp only [hi, hw]
    cases hrun : t.run with
    | false =>
      simp only [Bool.false_eq_true, if_false]
      have hv := (hok.skip hrun).1
      obtain ⟨I', _⟩ := inv_flat ph I hs hi ht hr (by rw [hrun]; simp) (by rw [hv]; exact trivial)
      rw [hv, conc_undef] at I'
      exact ih _ _ _ _ _ _ _ I' hf'
    | true =>
      simp only [if_true]
      have flat : clsOf o < 2 → OpOk P ρ g.h g.nx w o a (.pv t.v) ∨ OpOk P ρ .nil g.nx w o a (.pv t.v) → o.wp P a w (wpAny P .any ops (Post ρ0 h0 nx0 w0 N .normal tmF dfF hF nxF) fuel (listed.setIfInBounds i true)) (Post ρ0 h0 nx0 w0 N .normal tmF dfF hF nxF) ∨ (o.asks P a w ∧ LetsOut (Post ρ0 h0 nx0 w0 N .normal tmF dfF hF nxF)) := fun hlt hop => by
        obtain ⟨h1, h2⟩ : Sc g.nx t.v ∧ (execOp a.eval o).run P w = .ok (.value (conc ρ t.v)) w := by
          rcases hop with h | h
          · exact h
          · exact h
        refine .inl ?_
        unfold Oper.wp
        rw [h2]
        obtain ⟨I', _⟩ := inv_flat ph I hs hi ht hr (by omega) h1
        exact ih _ _ _ _ _ _ _ I' hf'
      rcases Nat.lt_or_ge (clsOf o) 2 with hlt | hge
      · have hc : clsOf o = 0 ∨ clsOf o = 1 := by omega
        rcases hc with hc | hc
        · obtain ⟨⟨nx', hp⟩, _⟩ := hok.pure hrun hc
          refine flat hlt (.inr ?_)
          have hop := op_ok (P := P) (ρ := ρ) (o := o) (a := a) hE hT (I.step.hr.sub (h' := .nil) fun b o hb => by rw [PT.get_nil] at hb; cases hb)
          rw [op_restr, op_flat E t.tm .nil g.nx nx' o hc] at hop
          have hpv : op E t.tm .nil nx' o.op = .pv t.v := by
            unfold pvOf at hp
            split at hp
            · rename_i v hv; cases hp; exact hv
            · cases hp
          rw [hpv] at hop
          exact hop
        · refine flat hlt (.inl ?_)
          have hop := op_ok (P := P) (ρ := ρ) (o := o) (a := a) hE hT I.step.hr
          rw [op_restr] at hop
          obtain ⟨b, hb, _⟩ := befsOf_spec (l := ops.toList) (i := i) (o := o) (by rw [Array.getElem?_toList]; exact hi)
          have := readOk_ok (ph.read i o t b hi ht hb) hc hrun I.sg fun x o' t' b' k1 k2 k3 k4 k5 => by
            rw [Array.getElem?_toList] at k1
            refine ⟨fun hbit => ?_, fun hbit => ?_⟩
            · have hA : Ahead ops x i := ⟨b, hb, hbit⟩
              have hL := ready_ahead ph I.clo hr hA
              rcases Nat.lt_or_ge t'.k m with h | h
              · omega
              · exfalso
                have := ((I.pend x o' t' k1 k2 k4 k5 hL h).float.2.2.1 i o (ahead_lt hA) hi hA).1
                omega
            · have hA : Ahead ops i x := ⟨b', k3, hbit⟩
              rcases Nat.lt_or_ge t'.k m with h | h
              · exact absurd (I.clo i x (I.done x o' t' k1 k2 k4 k5 h) hA) hun
              · exact h
          rw [this] at hop
          exact hop
      · clear flat
        by_cases hfl : Float ops i o
        · -- an alloc that may come up ahead of its stage
          obtain ⟨ty, hop⟩ := hfl.2.1
          have hge' : m ≤ t.k := by
            rcases Nat.lt_or_ge t.k m with h | h
            · exact absurd (I.done i o t hi ht hge hrun h) hun
            · exact h
          obtain ⟨_, g1, g2, _, _, hact⟩ := hok.acts hrun hge
          rw [hop] at hact
          have hact : actR rec g1.df g1.h g1.nx (Option.rec (motive := fun _ => O) .fail (fun z => .val (.ptr g1.nx 0) (g1.h.set g1.nx (newObj ty z.cells)) (Nat.succ g1.nx)) (zero E ty)) = some (t.v, g2.df, g2.h, g2.nx) := hact
          cases hz : zero E ty with
          | none => rw [hz] at hact; cases hact
          | some z =>
            obtain ⟨w1, r1, r2, r3⟩ := alloc_run hE hop hz ρ a w
            refine .inl ?_
            unfold Oper.wp
            rw [r1]
            have I' := inv_float ph I hs hi ht hr hge hrun hge' hfl hop r2 r3 (fun z' h => by rw [hz] at h; cases h; rfl)
            exact ih _ _ _ _ _ _ _ I' hf'
        · have hk := next_k ph I hs hi ht hr hge hrun (.inr hfl)
          obtain ⟨_, g1, g2, q1, q2, hact⟩ := hok.acts hrun hge
          rw [Nat.sub_zero, hk, I.sg] at q1
          cases q1
          rw [Nat.sub_zero, hk] at q2
          rw [← op_restr (ops := ops)] at hact
          refine act_step hE hcall I.step.hr hT I.dr hact fun ρ1 w1 a1 s1 p1 p2 p3 => ?_
          exact ih _ _ _ _ _ _ _ (inv_acts ph I hs hi ht hr hge hrun hk q2 s1 p1 p2 p3) hf'
theorem draw_ok (hE : EnvOk E P) (hm : P.follows .mixedOrders = true) (hrec : RecOk P rec) : DrawOk E P rec := by
  intro N ops hB tm df h nx x tm' df' h' nx' hr ρ a w id st
  have hr : (match drawOk ops with | true => drawEnd E ops.toList (phase1 E rec ops.toList ops.toList 0 tm df h nx) | false => .fail "draw") = R.code x tm' df' h' nx' := hr
  split at hr
  case h_2 => cases hr
  rename_i hd
  unfold drawEnd at hr
  split at hr
  case h_1 => cases hr
  rename_i trs sts tmF dfF hF nxF hp
  split at hr
  case h_2 => cases hr
  rename_i h2
  cases hr
  obtain ⟨M, g1, _, g3, g4, g5, g6, g7, g8⟩ := phase1_ok _ _ _ _ _ _ _ _ _ _ _ _ hp
  have ph : Ph E rec N ops trs sts tm' M := ⟨drawOk_spec hd, hB, by simpa using g3, by rw [g1]; rfl, g7, fun i o hi => g8 i o (by rw [Array.getElem?_toList]; exact hi), fun i o t b hi ht hb => by
    have := phase2_ok h2 i o t b (by rw [Array.getElem?_toList]; exact hi) ht hb
    rwa [Nat.zero_add] at this⟩
  refine wp_region_any hm ?_
  have hsz : unl (Array.replicate ops.size false).toList ≤ ops.size := by
    unfold unl
    exact Nat.le_trans List.count_le_length (by simp)
  have hno : ∀ i, ¬ Lst (Array.replicate ops.size false) i := fun i h => by
    unfold Lst at h
    rw [Array.getD_eq_getD_getElem?, Array.getElem?_replicate] at h
    split at h <;> cases h
  refine any_ok (ρ0 := ρ) (h0 := h) (nx0 := nx) (w0 := w) hE hrec.2.2 ph g5 ops.size _ a _ 0 ⟨h, nx, df⟩ ρ (fun _ => 0) ⟨by simp, ?_, g4, ?_, st.dr, st.size, ?_, ?_, ?_, ?_⟩ hsz
  · intro i j hL; exact absurd hL (hno j)
  · exact (Step.refl st.hr).heapEq rfl
  · intro i o t _ _ _ _ hk; omega
  · intro i o t _ _ _ _ hL; exact absurd hL (hno i)
  · intro i i' o o' t t' _ _ _ _ hL; exact absurd hL (hno i)
  · intro j x v hj _ hx hav
    have : (tmOf trs tm' j).get x = (tmOf trs tm' 0).get x := by
      refine ph.tm_keep (Nat.zero_le _) hj fun l o _ h1 h2 h3 => ?_
      obtain ⟨l', r1, r2, ⟨ol', r4, r5⟩, r6⟩ := last_of (p := fun l => ∃ ol, ops[l]? = some ol ∧ ol.dst = some x) j l h1 ⟨o, h2, h3⟩
      exact absurd (hav l' ol' r2 r4 r5 fun k ok k1 k2 k3 k4 => r6 k k1 k2 ⟨ok, k3, k4⟩).1 (hno l')
    rw [this, g6] at hx
    exact st.tr x v hx
end
theorem ev_sound {E : Env} {P : Program} (hP : ProgOk E P) (hm : P.follows .mixedOrders = true) (n : Nat) : RecOk P (ev E n) := ev_ok hP (fun _ hrec => draw_ok hP.env hm hrec) n
end Go.Ev
