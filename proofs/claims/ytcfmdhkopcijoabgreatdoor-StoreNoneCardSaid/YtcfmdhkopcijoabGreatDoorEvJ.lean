import Derived.Test.YtcfmdhkopcijoabGreatDoorEvG
import Derived.Test.YtcfmdhkopcijoabGreatDoorEvI
set_option linter.all false
/-! THE EVALUATOR's SOUNDNESS, 36: calls that are run ahead: what the kernel is to check. -/
namespace Go.Ev
open Go
noncomputable section
mutual
def closedV : AV → Bool
  | .ptr _ _ => false
  | .slice _ _ _ _ => false
  | .sliceU _ _ _ _ => false
  | .sliceZ _ _ _ _ => false
  | .map _ => false
  | .func _ a b => closedVs a && closedVs b
  | .iface _ v => closedV v
  | .agg cs => closedVs cs
  | .tuple vs => closedVs vs
  | .bool _ => true
  | .int _ _ => true
  | .str _ _ => true
  | .nilPtr => true
  | .nilSlice => true
  | .nilMap => true
  | .nilFunc => true
  | .nilIface => true
  | .sym _ => true
def closedVs : List AV → Bool
  | [] => true
  | x :: l => closedV x && closedVs l
end
mutual
theorem closedV_ok : ∀ v, closedV v = true → Sc 0 v
  | .ptr _ _, h => by simp [closedV] at h
  | .slice _ _ _ _, h => by simp [closedV] at h
  | .sliceU _ _ _ _, h => by simp [closedV] at h
  | .sliceZ _ _ _ _, h => by simp [closedV] at h
  | .map _, h => by simp [closedV] at h
  | .func _ a b, h => by simp only [closedV, Bool.and_eq_true] at h; exact ⟨closedVs_ok a h.1, closedVs_ok b h.2⟩
  | .iface _ v, h => by simp only [closedV] at h; exact closedV_ok v h
  | .agg cs, h => by simp only [closedV] at h; exact closedVs_ok cs h
  | .tuple vs, h => by simp only [closedV] at h; exact closedVs_ok vs h
  | .bool _, _ => trivial
  | .int _ _, _ => trivial
  | .str _ _, _ => trivial
  | .nilPtr, _ => trivial
  | .nilSlice, _ => trivial
  | .nilMap, _ => trivial
  | .nilFunc, _ => trivial
  | .nilIface, _ => trivial
  | .sym _, _ => trivial
theorem closedVs_ok : ∀ l, closedVs l = true → Scs 0 l
  | [], _ => trivial
  | x :: l, h => by simp only [closedVs, Bool.and_eq_true] at h; exact ⟨closedV_ok x h.1, closedVs_ok l h.2⟩
end
def N8.beq {β : Type} (f : β → β → Bool) (a b : N8 β) : Bool := match a with
  | .nil => match b with | .nil => true | .mk _ _ _ _ _ _ _ _ => false
  | .mk x0 x1 x2 x3 x4 x5 x6 x7 => match b with | .nil => false | .mk y0 y1 y2 y3 y4 y5 y6 y7 => f x0 y0 && f x1 y1 && f x2 y2 && f x3 y3 && f x4 y4 && f x5 y5 && f x6 y6 && f x7 y7
theorem N8.beq_ok {β : Type} {f : β → β → Bool} (hf : ∀ x y, f x y = true → x = y) (a b : N8 β) (h : N8.beq f a b = true) : a = b := by
  cases a with
  | nil =>
    cases b with
    | nil => rfl
    | mk y0 y1 y2 y3 y4 y5 y6 y7 => simp [N8.beq] at h
  | mk x0 x1 x2 x3 x4 x5 x6 x7 =>
    cases b with
    | nil => simp [N8.beq] at h
    | mk y0 y1 y2 y3 y4 y5 y6 y7 =>
      simp only [N8.beq, Bool.and_eq_true] at h
      obtain ⟨⟨⟨⟨⟨⟨⟨h0, h1⟩, h2⟩, h3⟩, h4⟩, h5⟩, h6⟩, h7⟩ := h
      rw [hf _ _ h0, hf _ _ h1, hf _ _ h2, hf _ _ h3, hf _ _ h4, hf _ _ h5, hf _ _ h6, hf _ _ h7]
def beqO (a b : Option AV) : Bool := match a with
  | none => match b with | none => true | some _ => false
  | some x => match b with | none => false | some y => beqV x y
theorem beqO_ok (a b : Option AV) (h : beqO a b = true) : a = b := by
  cases a <;> cases b <;> simp [beqO] at h
  · rfl
  · rw [beqV_ok _ _ h]
def BT.beq (a : BT AV) : BT AV → Bool := match a with
  | .nil => fun b => match b with | .nil => true | .node _ _ _ => false
  | .node l v r => fun b => match b with | .nil => false | .node l' v' r' => l.beq l' && beqO v v' && r.beq r'
theorem BT.beq_ok (a : BT AV) : ∀ (b : BT AV), a.beq b = true → a = b := by
  induction a with
  | nil =>
    intro b h
    cases b with
    | nil => rfl
    | node l v r => simp [BT.beq] at h
  | node l v r ihl ihr =>
    intro b h
    cases b with
    | nil => simp [BT.beq] at h
    | node l' v' r' =>
      simp only [BT.beq, Bool.and_eq_true] at h
      rw [ihl l' h.1.1, beqO_ok v v' h.1.2, ihr r' h.2]
def PT.beq (a b : PT AV) : Bool := match a with
  | .nil => match b with | .nil => true | .mk _ _ _ _ _ => false
  | .mk a1 b1 c1 d1 z1 => match b with | .nil => false | .mk a2 b2 c2 d2 z2 => N8.beq beqO a1 a2 && N8.beq (N8.beq beqO) b1 b2 && N8.beq (N8.beq (N8.beq beqO)) c1 c2 && N8.beq (N8.beq (N8.beq (N8.beq (N8.beq beqO)))) d1 d2 && z1.beq z2
theorem PT.beq_ok (a b : PT AV) (h : a.beq b = true) : a = b := by
  have l1 := N8.beq_ok beqO_ok
  have l2 := N8.beq_ok l1
  have l3 := N8.beq_ok l2
  have l4 := N8.beq_ok l3
  have l5 := N8.beq_ok l4
  cases a with
  | nil =>
    cases b with
    | nil => rfl
    | mk a2 b2 c2 d2 z2 => simp [PT.beq] at h
  | mk a1 b1 c1 d1 z1 =>
    cases b with
    | nil => simp [PT.beq] at h
    | mk a2 b2 c2 d2 z2 =>
      simp only [PT.beq, Bool.and_eq_true] at h
      obtain ⟨⟨⟨⟨h1, h2⟩, h3⟩, h4⟩, h5⟩ := h
      rw [l1 _ _ h1, l2 _ _ h2, l3 _ _ h3, l5 _ _ h4, BT.beq_ok _ _ h5]
def beqFz (a b : Option Nat) : Bool := match a with
  | none => match b with | none => true | some _ => false
  | some x => match b with | none => false | some y => Nat.beq x y
theorem beqFz_ok (a b : Option Nat) (h : beqFz a b = true) : a = b := by
  cases a <;> cases b <;> simp [beqFz] at h
  · rfl
  · rw [h]
theorem beqVs_ok' : ∀ (a b : List AV), beqVs a b = true → a = b
  | [], [], _ => rfl
  | [], _ :: _, h => by simp [beqVs] at h
  | _ :: _, [], h => by simp [beqVs] at h
  | x :: a, y :: b, h => by
    simp only [beqVs] at h
    split at h
    · rename_i hx; rw [beqV_ok x y hx, beqVs_ok' a b h]
    · cases h
def beqEs : List (AV × AV × Nat) → List (AV × AV × Nat) → Bool
  | [], [] => true
  | e :: a, g :: b => beqV e.1 g.1 && beqV e.2.1 g.2.1 && Nat.beq e.2.2 g.2.2 && beqEs a b
  | _, _ => false
theorem beqEs_ok : ∀ (a b : List (AV × AV × Nat)), beqEs a b = true → a = b
  | [], [], _ => rfl
  | [], _ :: _, h => by simp [beqEs] at h
  | _ :: _, [], h => by simp [beqEs] at h
  | (k, v, n) :: a, (k', v', n') :: b, h => by
    simp only [beqEs, Bool.and_eq_true] at h
    rw [beqV_ok k k' h.1.1.1, beqV_ok v v' h.1.1.2, Nat.eq_of_beq_eq_true h.1.2, beqEs_ok a b h.2]
def beqAO (a b : AO) : Bool := match a with
  | .cells n dz t fz e => match b with
    | .cells n' dz' t' fz' e' => Nat.beq n n' && beqVs dz dz' && t.beq t' && beqFz fz fz' && Nat.beq e e'
    | _ => false
  | .map es c => match b with
    | .map es' c' => beqEs es es' && Nat.beq c c'
    | _ => false
  | _ => false
theorem beqAO_ok (a b : AO) (h : beqAO a b = true) : a = b := by
  cases a <;> cases b <;> simp only [beqAO, Bool.and_eq_true, Bool.false_eq_true] at h
  · obtain ⟨⟨⟨⟨h1, h2⟩, h3⟩, h4⟩, h5⟩ := h
    rw [Nat.eq_of_beq_eq_true h1, beqVs_ok' _ _ h2, PT.beq_ok _ _ h3, beqFz_ok _ _ h4, Nat.eq_of_beq_eq_true h5]
  · rw [beqEs_ok _ _ h.1, Nat.eq_of_beq_eq_true h.2]
def chkBs (h : Hp) : List (Nat × MB) → Bool
  | [] => true
  | b :: l => (match h.get b.1 with | some o => beqAO (mbO 0 b.2) o | none => false) && chkBs h l
def rChk (e : ME) (r : R) : Bool := match r with
  | .val v h nx => match e.bs with
    | [] => closedV e.v && beqV e.v v && Nat.beq e.m 0
    | _ :: _ => beqV e.v v && Nat.beq e.m nx && chkBs h e.bs
  | _ => false
def chkE (E : Env) (N f : Nat) (e : ME) : Bool := closedVs e.args && rChk e (evF E N (.call f e.args) .nil [] .nil 0)
def MGood (P : Program) (f : Nat) (e : ME) : Prop := Scs 0 e.args ∧ CallOk P f e.args .nil 0 (.val e.v (addBs 0 .nil e.bs) e.m)
theorem chkBs_ok {h : Hp} : ∀ {bs : List (Nat × MB)}, chkBs h bs = true → ∀ b o, (addBs 0 .nil bs).get b = some o → h.get b = some o
  | [], _, b, o, hb => by simp [addBs] at hb
  | x :: l, hc, b, o, hb => by
    simp only [chkBs, Bool.and_eq_true] at hc
    simp only [addBs, PT.get_set] at hb
    by_cases hx : Nat.add x.1 0 = b
    · rw [if_pos hx] at hb
      cases hb
      have hx : x.1 = b := hx
      subst hx
      have h1 := hc.1
      cases hg : h.get x.1 with
      | none => rw [hg] at h1; cases h1
      | some o' => rw [hg] at h1; rw [beqAO_ok _ _ h1]
    · rw [if_neg hx] at hb
      exact chkBs_ok hc.2 b o hb
theorem chkE_ok {E : Env} {P : Program} {N f : Nat} {e : ME} (hrec : RecOk P (ev E N)) (h : chkE E N f e = true) : MGood P f e := by
  unfold chkE at h
  rw [evF_eq, Bool.and_eq_true] at h
  refine ⟨closedVs_ok _ h.1, ?_⟩
  have hc := hrec.2.2 f e.args .nil 0
  have h2 := h.2
  cases hr : ev E N (.call f e.args) .nil [] .nil 0 with
  | fail w => rw [hr] at h2; cases h2
  | code x tm df h nx => rw [hr] at h2; cases h2
  | val v h' nx' =>
    rw [hr] at h2 hc
    unfold rChk at h2
    simp only at h2
    cases hb : e.bs with
    | nil =>
      rw [hb] at h2
      simp only [Bool.and_eq_true] at h2
      have hv := beqV_ok _ _ h2.1.2
      have hm := Nat.eq_of_beq_eq_true h2.2
      rw [hm]
      subst hv
      exact hc.drop (closedV_ok _ h2.1.1)
    | cons b l =>
      rw [hb] at h2
      simp only [Bool.and_eq_true] at h2
      have hv := beqV_ok _ _ h2.1.1
      have hm := Nat.eq_of_beq_eq_true h2.1.2
      subst hv
      exact hc.sub (chkBs_ok h2.2) hm.symm
def chkAll (E : Env) (N f : Nat) (es : List ME) : Bool := List.rec (motive := fun _ => Bool) true (fun e _ ih => Bool.rec (motive := fun _ => Bool) false ih (chkE E N f e)) es
theorem chkAll_ok {E : Env} {P : Program} {N f : Nat} (hrec : RecOk P (ev E N)) : ∀ {es : List ME}, chkAll E N f es = true → ∀ e ∈ es, MGood P f e
  | [], _, e, he => by simp at he
  | x :: es, h, e, he => by
    have h : Bool.rec (motive := fun _ => Bool) false (chkAll E N f es) (chkE E N f x) = true := h
    cases hx : chkE E N f x with
    | false => rw [hx] at h; cases h
    | true =>
      rw [hx] at h
      rcases List.mem_cons.1 he with rfl | he
      · exact chkE_ok hrec hx
      · exact chkAll_ok hrec h e he
def memoT : List (Nat × List ME) → PT (List ME)
  | [] => .nil
  | x :: l => (memoT l).set x.1 x.2
theorem memoT_get : ∀ {l : List (Nat × List ME)} {f : Nat} {es : List ME}, (memoT l).get f = some es → (f, es) ∈ l
  | [], f, es, h => by simp [memoT] at h
  | x :: l, f, es, h => by
    simp only [memoT, PT.get_set] at h
    by_cases hx : x.1 = f
    · rw [if_pos hx] at h; cases h; subst hx; exact List.mem_cons_self ..
    · rw [if_neg hx] at h; exact List.mem_cons_of_mem _ (memoT_get h)
theorem findM_ok {key : Nat} {args : List AV} : ∀ {l : List ME} {e : ME}, findM key args l = some e → e ∈ l ∧ e.args = args
  | [], e, h => by cases h
  | x :: l, e, h => by
    have h : Bool.rec (motive := fun _ => Option ME) (findM key args l) (Bool.rec (motive := fun _ => Option ME) (findM key args l) (some x) (beqVs x.args args)) (Nat.beq x.key key) = some e := h
    cases hk : Nat.beq x.key key with
    | false => rw [hk] at h; exact ⟨List.mem_cons_of_mem _ (findM_ok h).1, (findM_ok h).2⟩
    | true =>
      rw [hk] at h
      cases hb : beqVs x.args args with
      | false => rw [hb] at h; exact ⟨List.mem_cons_of_mem _ (findM_ok h).1, (findM_ok h).2⟩
      | true => rw [hb] at h; cases h; exact ⟨List.mem_cons_self .., beqVs_ok' _ _ hb⟩
theorem progOk_memo {E : Env} {P : Program} (hP : ProgOk E P) (l : List (Nat × List ME)) (hl : ∀ x ∈ l, ∀ e ∈ x.2, MGood P x.1 e) : ProgOk { E with memo := memoT l } P := by
  refine ⟨⟨hP.env.types, hP.env.funcs, hP.env.eqOk, hP.env.u8, hP.env.lies, hP.env.zsize⟩, hP.body, hP.quiet, hP.ext, fun f args e he h nx => ?_⟩
  unfold memoGet at he
  have he : Option.rec (motive := fun _ => Option ME) none (fun l => findM (keyVs args) args l) ((memoT l).get f) = some e := he
  cases hg : (memoT l).get f with
  | none => rw [hg] at he; cases he
  | some es =>
    rw [hg] at he
    obtain ⟨h1, h2⟩ := findM_ok he
    obtain ⟨g1, g2⟩ := hl _ (memoT_get hg) e h1
    rw [← h2]
    exact memo_frame g1 g2 h nx
end
end Go.Ev
/-! THE EVALUATOR's SOUNDNESS, 37: a program's environment out of closed checks. -/
namespace Go.Ev
open Go
noncomputable section
def assocT {α : Type} : List (Nat × α) → PT α
  | [] => .nil
  | x :: l => (assocT l).set x.1 x.2
theorem assocT_get {α : Type} : ∀ {l : List (Nat × α)} {f : Nat} {k : α}, (assocT l).get f = some k → (f, k) ∈ l
  | [], f, k, h => by simp [assocT] at h
  | x :: l, f, k, h => by
    simp only [assocT, PT.get_set] at h
    by_cases hx : x.1 = f
    · rw [if_pos hx] at h; cases h; subst hx; exact List.mem_cons_self ..
    · rw [if_neg hx] at h; exact List.mem_cons_of_mem _ (assocT_get h)
def mkEnv (P : Program) (eqs : List Nat) (ls : List (Nat × Nat × Nat)) (u8 : Nat) (ext : List (Nat × Nat)) (dq : List Nat) : Env :=
  { funcs := PT.ofList P.funcs.toList, types := PT.ofList P.types.toList, eqOk := eqs, ext := assocT ext, u8 := u8, dq := dq, lies := ls }
variable {P : Program} {eqs : List Nat} {ls : List (Nat × Nat × Nat)} {u8 : Nat} {ext : List (Nat × Nat)} {dq : List Nat}
theorem memL_mem {e o u : Nat} : ∀ {l : List (Nat × Nat × Nat)}, memL e o u l = true → (e, o, u) ∈ l
  | [], h => by simp [memL] at h
  | (a, b, c) :: l, h => by
    simp only [memL] at h
    split at h
    · rename_i h1
      split at h
      · rename_i h2
        split at h
        · rename_i h3
          rw [← Nat.eq_of_beq_eq_true h1, ← Nat.eq_of_beq_eq_true h2, ← Nat.eq_of_beq_eq_true h3]
          exact List.mem_cons_self ..
        · exact List.mem_cons_of_mem _ (memL_mem h)
      · exact List.mem_cons_of_mem _ (memL_mem h)
    · exact List.mem_cons_of_mem _ (memL_mem h)
def eqsChk (P : Program) (eqs : List Nat) : Bool := eqs.all fun t => !P.stoodInHeld t && !P.eqGuardType P.depth t && (P.fieldsOf t).toList.all fun f => !(f.name == "_")
def liesChk (P : Program) (ls : List (Nat × Nat × Nat)) : Bool := ls.all fun x => liesAt P P.depth x.1 (x.2.1 / P.cellsOf x.1 + 1) x.2.1 x.2.2 1
def zeroChk (ts : List TypeInfo) : Bool := ts.all fun i => match i.zero with | some z => z.cells.size == i.size | none => true
def bodyChk (fs : List Func) : Bool := fs.all fun fn => match fn.body with | some b => codeB fn.ntmps b && !(fn.name == "runtime.NumGoroutine") | none => true
theorem envOk_mk (heq : eqsChk P eqs = true) (hl : liesChk P ls = true) (hz : zeroChk P.types.toList = true) (hu : (mkEnv P eqs ls u8 ext dq).und u8 = some (.int .u8)) : EnvOk (mkEnv P eqs ls u8 ext dq) P := by
  refine ⟨fun t i h => ?_, fun f fn h => ?_, fun t h => ?_, hu, fun e o u h => ?_, fun t i z h hzz => ?_⟩
  · have h : (PT.ofList P.types.toList).get t = some i := h
    rw [PT.get_ofList, Array.getElem?_toList] at h
    have hlt := (Array.getElem?_eq_some_iff.1 h).1
    unfold Tables.info?
    rw [if_pos hlt]; exact h
  · have h : (PT.ofList P.funcs.toList).get f = some fn := h
    rw [PT.get_ofList] at h
    simpa using h
  · have := List.all_eq_true.1 heq t ((memN_iff t eqs).1 h)
    simp only [Bool.and_eq_true, Bool.not_eq_true'] at this
    refine ⟨this.1.1, this.1.2, fun f hf e => ?_⟩
    have := List.all_eq_true.1 this.2 f hf
    rw [e] at this
    simp at this
  · have := List.all_eq_true.1 hl _ (memL_mem h)
    exact this
  · have h : (PT.ofList P.types.toList).get t = some i := h
    rw [PT.get_ofList] at h
    have := List.all_eq_true.1 hz i (List.mem_of_getElem? h)
    rw [hzz] at this
    simpa using this
theorem progOk_mk (henv : EnvOk (mkEnv P eqs ls u8 ext dq) P) (hb : bodyChk P.funcs.toList = true) (hq : ∀ f ∈ dq, Quiet P f)
    (hx : ∀ x ∈ ext, ∀ args h nx, CallOk P x.1 args h nx (extern (mkEnv P eqs ls u8 ext dq) x.2 args h nx)) : ProgOk (mkEnv P eqs ls u8 ext dq) P := by
  refine ⟨henv, fun f fn b h hbody => ?_, fun f h => hq f ((memN_iff f dq).1 h), fun f k h => hx (f, k) (assocT_get h), fun f args e h => ?_⟩
  · have h : (PT.ofList P.funcs.toList).get f = some fn := h
    rw [PT.get_ofList] at h
    have := List.all_eq_true.1 hb fn (List.mem_of_getElem? h)
    rw [hbody] at this
    simpa [Bool.and_eq_true] using this
  · unfold memoGet at h
    have : (mkEnv P eqs ls u8 ext dq).memo.get f = none := PT.get_nil f
    rw [this] at h; cases h
theorem enter_of {f : Nat} {fn : Func} (hf : P.funcs[f]? = some fn) (hn : (fn.name == "runtime.NumGoroutine") = false) (hb : fn.body.isSome = true) (args : Array Value) (w : World) : (callFunc f args).run P w = .ok (.enter f args) w := by
  obtain ⟨b, hb⟩ := Option.isSome_iff_exists.1 hb
  simp [callFunc, hf, hb]
  simpa using hn
end
end Go.Ev
