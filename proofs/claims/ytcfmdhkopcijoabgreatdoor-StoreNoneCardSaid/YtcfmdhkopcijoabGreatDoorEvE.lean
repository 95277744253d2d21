import Derived.Test.YtcfmdhkopcijoabGreatDoorEvD
import Derived.Scope
import Derived.Defers
set_option linter.all false
/-! THE EVALUATOR's SOUNDNESS, 17: regions in the text's order; code; calls. -/
namespace Go.Ev
open Go

def exOf : X → Exit
  | .normal => .normal
  | .exit i => .exit i
  | .goto l => .goto l
  | .ret => .ret
def DR1 (ρ : Rho) (nx : Nat) (d : ADef) (q : Deferred) : Prop := Scs nx d.args ∧ ∃ cap args, args ++ cap = (concs ρ d.args).toArray ∧ q = { target := .fn (.func d.f) cap, args }
def DR (ρ : Rho) (nx : Nat) : List ADef → List Deferred → Prop
  | [], [] => True
  | d :: df, q :: qs => DR1 ρ nx d q ∧ DR ρ nx df qs
  | _, _ => False
theorem DR.ext {ρ ρ' : Rho} {nx nx' : Nat} (he : Ext nx ρ ρ') (hle : nx ≤ nx') : ∀ {df : List ADef} {qs : List Deferred}, DR ρ nx df qs → DR ρ' nx' df qs
  | [], [], _ => trivial
  | d :: df, q :: qs, h => by
    obtain ⟨⟨h1, cap, args, h2, h3⟩, h4⟩ := h
    exact ⟨⟨Scs_iff.2 fun v hv => Sc.mono hle v (Scs_iff.1 h1 v hv), cap, args, by rw [h2, concs_ext he _ h1], h3⟩, DR.ext he hle h4⟩
  | [], _ :: _, h => h.elim
  | _ :: _, [], h => h.elim
/-- What stands between the abstract state and the frame. -/
structure St (ρ : Rho) (h : Hp) (nx : Nat) (tm : PT AV) (df : List ADef) (N : Nat) (a : Act) (w : World) : Prop where
  hr : HR ρ h nx w
  tr : TR ρ nx tm a.tmps
  dr : DR ρ nx df a.defers
  size : a.tmps.size = N
def Post (ρ : Rho) (h : Hp) (nx : Nat) (w : World) (N : Nat) (x : Exit) (tm' : PT AV) (df' : List ADef) (h' : Hp) (nx' : Nat) : Exit → Act → World → Prop := fun e a' w' =>
  False ∨ (e = x ∧ ∃ ρ', Step ρ h nx w ρ' h' nx' w' ∧ St ρ' h' nx' tm' df' N a' w')
theorem Post.trans {ρ ρ1 : Rho} {h h1 : Hp} {nx nx1 : Nat} {w w1 : World} {N : Nat} {x : Exit} {tm' : PT AV} {df' : List ADef} {h' : Hp} {nx' : Nat} (s : Step ρ h nx w ρ1 h1 nx1 w1) {e : Exit} {a' : Act} {w' : World}
    (p : Post ρ1 h1 nx1 w1 N x tm' df' h' nx' e a' w') : Post ρ h nx w N x tm' df' h' nx' e a' w' := by
  rcases p with p | ⟨p, ρ', s', st⟩
  · exact .inl p
  · exact .inr ⟨p, ρ', s.trans s', st⟩
/-- What a call comes to. -/
def UpC (P : Program) (f : Nat) (args : Array Value) (w : World) (K : Value → World → Prop) : Prop :=
  (∃ u w', (callFunc f args).run P w = .ok (.value u) w' ∧ K u w') ∨
  ((callFunc f args).run P w = .ok (.enter f args) w ∧ Calls P f args w fun | .returned u, w' => K u w' | .outgrown, _ => False | .panicked _, _ => False)
def ValOk (ρ : Rho) (h : Hp) (nx : Nat) (w : World) (v : AV) (h' : Hp) (nx' : Nat) : Value → World → Prop := fun u w' => ∃ ρ', Step ρ h nx w ρ' h' nx' w' ∧ Sc nx' v ∧ u = conc ρ' v
def CallOk (P : Program) (f : Nat) (args : List AV) (h : Hp) (nx : Nat) (r : R) : Prop :=
  ∀ v h' nx', r = .val v h' nx' → ∀ ρ w, HR ρ h nx w → Scs nx args → UpC P f (concs ρ args).toArray w (ValOk ρ h nx w v h' nx')

/-- The temporaries that code writes. -/
def codeB (N : Nat) : Code → Bool
  | .region _ ops _ => ops.toList.all fun o => match o.dst with | some t => Nat.blt t N | none => true
  | .seq a b => codeB N a && codeB N b
  | .cond _ a b => codeB N a && codeB N b
  | .block _ b => codeB N b
  | .loop b => codeB N b
  | .scope b => codeB N b
  | _ => true
theorem codeB_findLabel {N l : Nat} : ∀ {c r : Code}, codeB N c = true → findLabel c l = some r → codeB N r = true := by
  intro c
  induction c with
  | seq a b iha ihb =>
    intro r hc hf
    simp only [codeB, Bool.and_eq_true] at hc
    simp only [findLabel] at hf
    split at hf
    · rename_i rest hr
      cases hf
      simp only [codeB, Bool.and_eq_true]
      exact ⟨iha hc.1 hr, hc.2⟩
    · exact ihb hc.2 hf
  | label l' =>
    intro r hc hf
    simp only [findLabel] at hf
    split at hf
    · cases hf; rfl
    · cases hf
  | _ => intro r hc hf; simp [findLabel] at hf

section
variable {E : Env} {P : Program} {rec : Rec} {N : Nat}

theorem St.post {ρ : Rho} {h : Hp} {nx : Nat} {w : World} {a : Act} {x : Exit} {tm : PT AV} {df : List ADef} (st : St ρ h nx tm df N a w) : Post ρ h nx w N x tm df h nx x a w :=
  .inr ⟨rfl, ρ, Step.refl st.hr, st⟩
theorem put_size (a : Act) (d : Option Nat) (v : Value) : (a.put d v).tmps.size = a.tmps.size := by cases d <;> simp [Act.put]
theorem put_defers (a : Act) (d : Option Nat) (v : Value) : (a.put d v).defers = a.defers := by cases d <;> simp [Act.put]
theorem St.step {ρ ρ' : Rho} {h h' : Hp} {nx nx' : Nat} {tm : PT AV} {df : List ADef} {a : Act} {w w' : World} (st : St ρ h nx tm df N a w) (s : Step ρ h nx w ρ' h' nx' w') : St ρ' h' nx' tm df N a w' :=
  ⟨s.hr, st.tr.step s, st.dr.ext s.ext s.le, st.size⟩
theorem St.put {ρ : Rho} {h : Hp} {nx : Nat} {tm : PT AV} {df : List ADef} {a : Act} {w : World} (st : St ρ h nx tm df N a w) {d : Option Nat} {v : AV} (hv : Sc nx v) (hd : ∀ t, d = some t → t < N) :
    St ρ h nx (putT tm d v) df N (a.put d (conc ρ v)) w :=
  ⟨st.hr, st.tr.put d v hv (by rw [st.size]; exact hd), by rw [put_defers]; exact st.dr, by rw [put_size]; exact st.size⟩
theorem wantedG_ok {ρ : Rho} {nx : Nat} {tm : PT AV} {a : Act} (hT : TR ρ nx tm a.tmps) {ops : Array Oper} {o : Oper} {g : Nat × Bool} {b : Bool} (hg : o.guard = some g) (hw : wantedG ops.toList tm g = some b) :
    Region.wanted o (yielded ops a.tmps) = b := by
  unfold wantedG at hw
  simp only [nth_eq, Array.getElem?_toList] at hw
  split at hw
  case h_2 => cases hw
  rename_i o' ho'
  split at hw
  case h_2 => cases hw
  rename_i d hd
  split at hw
  case h_2 => cases hw
  rename_i v hv
  obtain ⟨_, h2⟩ := hT d v hv
  obtain ⟨j, want⟩ := g
  unfold Region.wanted
  rw [hg]
  simp only at ho'
  simp only [yielded, ho', Option.bind_some, hd, h2]
  cases v with
  | bool bb =>
    cases hw
    simp only [conc]
    cases bb <;> cases want <;> rfl
  | tuple vs =>
    cases hw
    simp only [conc]
    cases want <;> rfl
  | _ => cases hw
/-- One operation in its place. -/
theorem op_step {ρ : Rho} {h : Hp} {nx : Nat} {w : World} {a : Act} {tm : PT AV} {df : List ADef} {pos : String} {o : Oper} {k : PT AV → List ADef → Hp → Nat → R} {x : X} {tm' : PT AV} {df' : List ADef} {h' : Hp} {nx' : Nat}
    {ρ0 : Rho} {h0 : Hp} {nx0 : Nat} {w0 : World} (s0 : Step ρ0 h0 nx0 w0 ρ h nx w)
    (hE : EnvOk E P) (hcall : ∀ f args h nx, CallOk P f args h nx (rec (.call f args) .nil [] h nx)) (st : St ρ h nx tm df N a w) (hd : ∀ t, o.dst = some t → t < N)
    (hr : doOp rec pos o.dst k tm df h nx (op E tm h nx o.op) = .code x tm' df' h' nx') {K : Act → World → Prop} {Q : Exit → Act → World → Prop}
    (hK : ∀ tm1 df1 h1 nx1 ρ1 w1 a1, k tm1 df1 h1 nx1 = .code x tm' df' h' nx' → Step ρ0 h0 nx0 w0 ρ1 h1 nx1 w1 → St ρ1 h1 nx1 tm1 df1 N a1 w1 → K a1 w1) :
    o.wp P a w K Q ∨ (o.asks P a w ∧ LetsOut Q) := by
  have hop := op_ok (P := P) (ρ := ρ) (o := o) (a := a) hE st.tr st.hr
  cases hv : op E tm h nx o.op with
  | fail => rw [hv] at hr; cases hr
  | pv v =>
    rw [hv] at hr hop
    obtain ⟨h1, h2⟩ := hop
    refine .inl ?_
    unfold Oper.wp
    rw [h2]
    exact hK _ _ _ _ _ _ _ hr s0 (st.put h1 hd)
  | val v h1 nx1 =>
    rw [hv] at hr hop
    obtain ⟨ρ1, w1, s1, h1, h2⟩ := hop
    refine .inl ?_
    unfold Oper.wp
    rw [h2]
    exact hK _ _ _ _ _ _ _ hr (s0.trans s1) ((st.step s1).put h1 hd)
  | skip h1 =>
    rw [hv] at hr hop
    obtain ⟨w1, s1, h2⟩ := hop
    refine .inl ?_
    unfold Oper.wp
    rw [h2]
    exact hK _ _ _ _ _ _ _ hr (s0.trans s1) ((st.step s1).put (v := AV.undef) trivial hd)
  | enter f args =>
    rw [hv] at hr hop
    obtain ⟨h1, h2⟩ := hop
    refine .inl ?_
    unfold Oper.wp
    rw [h2]
    have hr : (R.rec (motive := fun _ => R) (fun w => .fail (pos ++ " < " ++ w)) (fun _ _ _ _ _ => .fail "?") (fun v h nx => k (putT tm o.dst v) df h nx) (rec (.call f args) .nil [] h nx)) = .code x tm' df' h' nx' := hr
    cases hc : rec (.call f args) .nil [] h nx with
    | fail y => rw [hc] at hr; cases hr
    | code => rw [hc] at hr; cases hr
    | val v h1' nx1 =>
      rw [hc] at hr
      have hr : k (putT tm o.dst v) df h1' nx1 = .code x tm' df' h' nx' := hr
      have fin : ∀ u w1, ValOk ρ h nx w v h1' nx1 u w1 → K (a.put o.dst u) w1 := fun u w1 ⟨ρ1, s1, g1, g2⟩ => by
        rw [g2]
        exact hK _ _ _ _ _ _ _ hr (s0.trans s1) ((st.step s1).put g1 hd)
      rcases hcall f args h nx v h1' nx1 hc ρ w st.hr h1 with ⟨u, w1, g1, g2⟩ | ⟨g1, g2⟩
      · rw [g1]; exact fin u w1 g2
      · rw [g1]
        show Calls P f _ w _
        refine Calls.mono g2 fun e w' he => ?_
        cases e with
        | returned u => exact fin u w' he
        | panicked c => exact he.elim
        | outgrown => exact he.elim
  | defer d =>
    rw [hv] at hr hop
    obtain ⟨h1, cap, args, h2, h3⟩ := hop
    refine .inl ?_
    unfold Oper.wp
    rw [h3]
    refine hK _ (d :: df) _ _ _ _ _ hr s0 ?_
    have st2 : St ρ h nx tm (d :: df) N { a with defers := { target := .fn (.func d.f) cap, args } :: a.defers } w := ⟨st.hr, st.tr, ⟨⟨h1, cap, args, h2, rfl⟩, st.dr⟩, st.size⟩
    exact st2.put (v := AV.undef) trivial hd
theorem runOps_ok (hE : EnvOk E P) (hcall : ∀ f args h nx, CallOk P f args h nx (rec (.call f args) .nil [] h nx)) {ops : Array Oper} (hB : ∀ o ∈ ops.toList, ∀ t, o.dst = some t → t < N)
    {x : X} {tm' : PT AV} {df' : List ADef} {h' : Hp} {nx' : Nat} {ρ0 : Rho} {h0 : Hp} {nx0 : Nat} {w0 : World} :
    ∀ (l : List Oper) (i : Nat), ops.toList.drop i = l → ∀ tm df h nx ρ a w, Step ρ0 h0 nx0 w0 ρ h nx w → St ρ h nx tm df N a w →
    runOps E rec ops.toList l tm df h nx = .code x tm' df' h' nx' → wpOps P ops (Post ρ0 h0 nx0 w0 N (exOf x) tm' df' h' nx') (List.range' i l.length) a w := by
  intro l
  induction l with
  | nil =>
    intro i hl tm df h nx ρ a w s0 st hr
    cases hr
    exact .inr ⟨rfl, ρ, s0, st⟩
  | cons o l ih =>
    intro i hl tm df h nx ρ a w s0 st hr
    have hi : ops[i]? = some o := by
      have := congrArg (fun y => y[0]?) hl
      simpa [List.getElem?_drop] using this
    have hmem : o ∈ ops.toList := by
      have h2 : ops.toList[i]? = some o := by rw [Array.getElem?_toList]; exact hi
      exact List.mem_of_getElem? h2
    have hl' : ops.toList.drop (i + 1) = l := by
      rw [← List.drop_drop, hl]; rfl
    have hdst := hB o hmem
    have go : ∀ hr, Region.wanted o (yielded ops a.tmps) = true → doOp rec o.pos o.dst (runOps E rec ops.toList l) tm df h nx (op E tm h nx o.op) = .code x tm' df' h' nx' → wpOps P ops (Post ρ0 h0 nx0 w0 N (exOf x) tm' df' h' nx') (List.range' i (l.length + 1)) a w := fun (_ : True) hw hr => by
      rw [List.range'_succ]
      simp only [wpOps, hi, hw, if_true]
      refine op_step s0 hE hcall st hdst hr fun tm1 df1 h1 nx1 ρ1 w1 a1 e1 s1 st1 => ?_
      exact ih (i + 1) hl' tm1 df1 h1 nx1 ρ1 a1 w1 s1 st1 e1
    have hstep : runOps E rec ops.toList (o :: l) tm df h nx = (match o.guard with
      | none => doOp rec o.pos o.dst (runOps E rec ops.toList l) tm df h nx (op E tm h nx o.op)
      | some g => match wantedG ops.toList tm g with
        | some true => doOp rec o.pos o.dst (runOps E rec ops.toList l) tm df h nx (op E tm h nx o.op)
        | some false => runOps E rec ops.toList l (putT tm o.dst .undef) df h nx
        | none => .fail o.pos) := by
      obtain ⟨dst, op', t, pos, after, g⟩ := o
      cases g with
      | none => rfl
      | some g =>
        cases hwg : wantedG ops.toList tm g with
        | none => simp only [runOps, hwg]
        | some b => cases b <;> simp only [runOps, hwg]
    rw [hstep] at hr
    cases hg : o.guard with
    | none =>
      rw [hg] at hr
      exact go trivial (by simp [Region.wanted, hg]) hr
    | some g =>
      rw [hg] at hr
      simp only at hr
      cases hwg : wantedG ops.toList tm g with
      | none => rw [hwg] at hr; cases hr
      | some b =>
        rw [hwg] at hr
        have hw := wantedG_ok st.tr hg hwg
        cases b with
        | true => exact go trivial hw hr
        | false =>
          simp only at hr
          show wpOps P ops _ (List.range' i (l.length + 1)) a w
          rw [List.range'_succ]
          simp only [wpOps, hi, hw, Bool.false_eq_true, if_false]
          exact ih (i + 1) hl' _ _ _ _ ρ _ w s0 (st.put (v := AV.undef) trivial hdst) hr
end
end Go.Ev
/-! THE EVALUATOR's SOUNDNESS, 18: code. -/
namespace Go.Ev
open Go

def LoopWp (P : Program) (c : Code) (Q : Exit → Act → World → Prop) (a : Act) (w : World) : Prop :=
  ∀ (b : Frame) (k : List Item) (cs : List Frame), ∃ e a' w', Q e a' w' ∧ Arrives P (lone (b.at a (.code c :: .inLoop c :: k)) cs w) b k cs e a' w'
def ScopeWp (P : Program) (cur body : Code) (Q : Exit → Act → World → Prop) (a : Act) (w : World) : Prop :=
  ∀ (b : Frame) (k : List Item) (cs : List Frame), ∃ e a' w', Q e a' w' ∧ Arrives P (lone (b.at a (.code cur :: .inScope body :: k)) cs w) b k cs e a' w'
def Wp (P : Program) (c : Code) (Q : Exit → Act → World → Prop) (a : Act) (w : World) : Prop :=
  match c with
  | .loop b => LoopWp P b Q a w
  | c => c.wp P Q a w
theorem Wp.wp {P : Program} {c : Code} {Q : Exit → Act → World → Prop} {a : Act} {w : World} (h : Wp P c Q a w) : c.wp P Q a w := by
  cases c with
  | loop b => exact fun b' k cs => let ⟨e, a', w', q, r⟩ := h b' k cs; ⟨e, a', w', q, .of_steps (.one step_loop) r⟩
  | _ => exact h

section
variable {E : Env} {P : Program} {rec : Rec} {N : Nat}

def CodeOk (P : Program) (N : Nat) (rec : Rec) : Prop := ∀ c, codeB N c = true → ∀ tm df h nx x tm' df' h' nx', rec (.code c) tm df h nx = .code x tm' df' h' nx' →
  ∀ ρ a w, St ρ h nx tm df N a w → Wp P c (Post ρ h nx w N (exOf x) tm' df' h' nx') a w
def ScopeOk (P : Program) (N : Nat) (rec : Rec) : Prop := ∀ cur body, codeB N cur = true → codeB N body = true → ∀ tm df h nx x tm' df' h' nx', rec (.scope cur body) tm df h nx = .code x tm' df' h' nx' →
  ∀ ρ a w, St ρ h nx tm df N a w → ScopeWp P cur body (Post ρ h nx w N (exOf x) tm' df' h' nx') a w
def RecOk (P : Program) (rec : Rec) : Prop := (∀ N, CodeOk P N rec) ∧ (∀ N, ScopeOk P N rec) ∧ ∀ f args h nx, CallOk P f args h nx (rec (.call f args) .nil [] h nx)
def DrawOk (E : Env) (P : Program) (rec : Rec) : Prop := ∀ N ops, (∀ o ∈ ops.toList, ∀ t, o.dst = some t → t < N) → ∀ tm df h nx x tm' df' h' nx', region E rec ops true tm df h nx = .code x tm' df' h' nx' →
  ∀ ρ a w id, St ρ h nx tm df N a w → (Code.region id ops true).wp P (Post ρ h nx w N (exOf x) tm' df' h' nx') a w
theorem onCode_inv {f : X → PT AV → List ADef → Hp → Nat → R} {r : R} {x : X} {tm : PT AV} {df : List ADef} {h : Hp} {nx : Nat} (hr : onCode f r = .code x tm df h nx) :
    ∃ x1 tm1 df1 h1 nx1, r = .code x1 tm1 df1 h1 nx1 ∧ f x1 tm1 df1 h1 nx1 = .code x tm df h nx := by
  cases r with
  | fail w => cases hr
  | val v h nx => cases hr
  | code x1 tm1 df1 h1 nx1 => exact ⟨x1, tm1, df1, h1, nx1, rfl, hr⟩
/-- Whoever leaves with x1 (not normally) leaves so. -/
theorem leave {ρ : Rho} {h : Hp} {nx : Nat} {w : World} {x1 x : X} {tm1 tm' : PT AV} {df1 df' : List ADef} {h1 h' : Hp} {nx1 nx' : Nat} (e2 : R.code x1 tm1 df1 h1 nx1 = .code x tm' df' h' nx') {e : Exit} {a' : Act} {w' : World}
    (p : Post ρ h nx w N (exOf x1) tm1 df1 h1 nx1 e a' w') : Post ρ h nx w N (exOf x) tm' df' h' nx' e a' w' := by
  cases e2; exact p
theorem seq_ok {cb : Code} {x1 x : X} {tm1 tm' : PT AV} {df1 df' : List ADef} {h1 h' : Hp} {nx1 nx' : Nat} (e2 : seqK rec cb x1 tm1 df1 h1 nx1 = .code x tm' df' h' nx') :
    (x1 = .normal ∧ rec (.code cb) tm1 df1 h1 nx1 = .code x tm' df' h' nx') ∨ (x1 ≠ .normal ∧ R.code x1 tm1 df1 h1 nx1 = .code x tm' df' h' nx') := by
  cases x1 with
  | normal => exact .inl ⟨rfl, e2⟩
  | exit i => exact .inr ⟨by simp, e2⟩
  | goto i => exact .inr ⟨by simp, e2⟩
  | ret => exact .inr ⟨by simp, e2⟩
theorem exOf_ne {x : X} (h : x ≠ .normal) : exOf x ≠ .normal := by cases x <;> simp [exOf] at * 

theorem stepCode_ok (hE : EnvOk E P) (hrec : RecOk P rec) (hdraw : DrawOk E P rec) (N : Nat) : ∀ c, codeB N c = true → ∀ tm df h nx x tm' df' h' nx', stepCode E rec c tm df h nx = .code x tm' df' h' nx' →
    ∀ ρ a w, St ρ h nx tm df N a w → Wp P c (Post ρ h nx w N (exOf x) tm' df' h' nx') a w := by
  obtain ⟨hcode, hscope, hcall⟩ := hrec
  intro c hc tm df h nx x tm' df' h' nx' hr ρ a w st
  cases c with
  | skip => cases hr; exact wp_skip st.post
  | label l => cases hr; exact wp_label st.post
  | exit i => cases hr; exact wp_exit st.post
  | goto l => cases hr; exact wp_goto st.post
  | ret => cases hr; exact wp_ret st.post
  | refuse m => cases hr
  | rangeFunc y z u v => cases hr
  | region id ops draw =>
    have hB : ∀ o ∈ ops.toList, ∀ t, o.dst = some t → t < N := fun o ho t ht => by
      have := List.all_eq_true.1 hc o ho
      rw [ht] at this
      exact Nat.le_of_ble_eq_true this
    cases draw with
    | true => exact hdraw N ops hB tm df h nx x tm' df' h' nx' hr ρ a w id st
    | false =>
      refine wp_region ?_
      have := runOps_ok (E := E) (P := P) (rec := rec) hE hcall hB (ρ0 := ρ) (h0 := h) (nx0 := nx) (w0 := w) ops.toList 0 rfl tm df h nx ρ a w (Step.refl st.hr) st hr
      rw [Array.length_toList, ← List.range_eq_range'] at this
      exact this
  | seq ca cb =>
    simp only [codeB, Bool.and_eq_true] at hc
    obtain ⟨x1, tm1, df1, h1, nx1, e1, e2⟩ := onCode_inv hr
    refine wp_seq (wp_mono ((hcode N ca hc.1 _ _ _ _ _ _ _ _ _ e1 ρ a w st).wp) fun e a1 w1 p => ?_)
    rcases p with hF | ⟨rfl, ρ1, s1, st1⟩
    · exact hF.elim
    · rcases seq_ok e2 with ⟨rfl, e2⟩ | ⟨hne, e2⟩
      · exact wp_mono ((hcode N cb hc.2 _ _ _ _ _ _ _ _ _ e2 ρ1 a1 w1 st1).wp) fun e a2 w2 p => Post.trans s1 p
      · have q : Post ρ h nx w N (exOf x) tm' df' h' nx' (exOf x1) a1 w1 := leave e2 (.inr ⟨rfl, ρ1, s1, st1⟩)
        cases x1 <;> first | exact absurd rfl hne | exact q
  | cond y ca cb =>
    simp only [codeB, Bool.and_eq_true] at hc
    have hr : condK rec ca cb tm df h nx (evalOp tm y) = .code x tm' df' h' nx' := hr
    cases hv : evalOp tm y with
    | none => rw [hv] at hr; cases hr
    | some v =>
      rw [hv] at hr
      obtain ⟨_, h2⟩ := evalOp_ok st.tr hv
      cases v with
      | bool t =>
        refine wp_cond (t := t) (by rw [h2]; rfl) ?_
        cases t with
        | true => exact (hcode N ca hc.1 _ _ _ _ _ _ _ _ _ hr ρ a w st).wp
        | false => exact (hcode N cb hc.2 _ _ _ _ _ _ _ _ _ hr ρ a w st).wp
      | _ => cases hr
  | block id cb =>
    obtain ⟨x1, tm1, df1, h1, nx1, e1, e2⟩ := onCode_inv hr
    refine wp_block (wp_mono ((hcode N cb hc _ _ _ _ _ _ _ _ _ e1 ρ a w st).wp) fun e a1 w1 p => ?_)
    rcases p with hF | ⟨rfl, ρ1, s1, st1⟩
    · exact hF.elim
    · cases x1 with
      | normal => exact leave (x1 := .normal) e2 (.inr ⟨rfl, ρ1, s1, st1⟩)
      | goto l => exact leave (x1 := .goto l) e2 (.inr ⟨rfl, ρ1, s1, st1⟩)
      | ret => exact leave (x1 := .ret) e2 (.inr ⟨rfl, ρ1, s1, st1⟩)
      | exit i =>
        have e2 : Bool.rec (motive := fun _ => R) (.code (.exit i) tm1 df1 h1 nx1) (.code .normal tm1 df1 h1 nx1) (Nat.beq i id) = .code x tm' df' h' nx' := e2
        by_cases hi : i = id
        · have hb : Nat.beq i id = true := by rw [hi]; simp
          rw [hb] at e2
          show if i = id then _ else _
          rw [if_pos hi]
          exact leave (x1 := .normal) e2 (.inr ⟨rfl, ρ1, s1, st1⟩)
        · have hb : Nat.beq i id = false := by
            cases hq : Nat.beq i id
            · rfl
            · exact absurd (Nat.eq_of_beq_eq_true hq) hi
          rw [hb] at e2
          show if i = id then _ else _
          rw [if_neg hi]
          exact leave (x1 := .exit i) e2 (.inr ⟨rfl, ρ1, s1, st1⟩)
  | loop cb =>
    obtain ⟨x1, tm1, df1, h1, nx1, e1, e2⟩ := onCode_inv hr
    intro b k cs
    obtain ⟨e, a1, w1, p, arr⟩ := (hcode N cb hc _ _ _ _ _ _ _ _ _ e1 ρ a w st).wp b (.inLoop cb :: k) cs
    rcases p with hF | ⟨rfl, ρ1, s1, st1⟩
    · exact hF.elim
    · rcases seq_ok e2 with ⟨rfl, e2⟩ | ⟨hne, e2⟩
      · obtain ⟨e3, a3, w3, p3, arr3⟩ := hcode N (.loop cb) hc _ _ _ _ _ _ _ _ _ e2 ρ1 a1 w1 st1 b k cs
        exact ⟨e3, a3, w3, Post.trans s1 p3, .of_steps (Steps.trans arr (.one step_inLoop)) arr3⟩
      · exact ⟨exOf x1, a1, w1, leave e2 (.inr ⟨rfl, ρ1, s1, st1⟩), .pass (x := .inLoop cb) rfl (fun _ _ => .inl (exOf_ne hne)) arr⟩
  | scope cb =>
    have := hscope N cb cb hc hc _ _ _ _ _ _ _ _ _ hr ρ a w st
    exact fun b k cs => let ⟨e, a', w', q, r⟩ := this b k cs; ⟨e, a', w', q, .of_steps (.one step_scope) r⟩
theorem stepScope_ok (hrec : RecOk P rec) (N : Nat) : ∀ cur body, codeB N cur = true → codeB N body = true → ∀ tm df h nx x tm' df' h' nx', onCode (scopeK rec body) (rec (.code cur) tm df h nx) = .code x tm' df' h' nx' →
    ∀ ρ a w, St ρ h nx tm df N a w → ScopeWp P cur body (Post ρ h nx w N (exOf x) tm' df' h' nx') a w := by
  obtain ⟨hcode, hscope, hcall⟩ := hrec
  intro cur body hc hb tm df h nx x tm' df' h' nx' hr ρ a w st b k cs
  obtain ⟨x1, tm1, df1, h1, nx1, e1, e2⟩ := onCode_inv hr
  obtain ⟨e, a1, w1, p, arr⟩ := (hcode N cur hc _ _ _ _ _ _ _ _ _ e1 ρ a w st).wp b (.inScope body :: k) cs
  rcases p with hF | ⟨rfl, ρ1, s1, st1⟩
  · exact hF.elim
  · have q : ∀ y, R.code x1 tm1 df1 h1 nx1 = y → y = .code x tm' df' h' nx' → Post ρ h nx w N (exOf x) tm' df' h' nx' (exOf x1) a1 w1 := fun y e3 e4 => leave (e3.trans e4) (.inr ⟨rfl, ρ1, s1, st1⟩)
    cases x1 with
    | normal => exact ⟨.normal, a1, w1, q _ rfl e2, Steps.trans arr (.one step_inScope)⟩
    | exit i => exact ⟨.exit i, a1, w1, q _ rfl e2, fun k' hk => arr k' (by simp [exitTo, hk])⟩
    | ret => exact ⟨.ret, a1, w1, q _ rfl e2, arr⟩
    | goto l =>
      simp only [scopeK] at e2
      cases hf : findLabel body l with
      | none =>
        rw [hf] at e2
        exact ⟨.goto l, a1, w1, q _ rfl e2, fun k' hk => arr k' (by simp [gotoIn, hf, hk])⟩
      | some c =>
        rw [hf] at e2
        obtain ⟨e3, a3, w3, p3, arr3⟩ := hscope N c body (codeB_findLabel hb hf) hb _ _ _ _ _ _ _ _ _ e2 ρ1 a1 w1 st1 b k cs
        exact ⟨e3, a3, w3, Post.trans s1 p3, .of_steps (arr _ (by simp [gotoIn, hf])) arr3⟩
end
end Go.Ev
/-! THE EVALUATOR's SOUNDNESS, 19: calls; the whole (but for the regions that draw). -/
namespace Go.Ev
open Go

def Grown (w w' : World) : Prop := w.heap.size ≤ w'.heap.size ∧ (∀ B, B < w.heap.size → w'.heap[B]? = w.heap[B]?) ∧ SameOut w w'
/-- A deferred function that does nothing where nothing panics. -/
def Quiet (P : Program) (f : Nat) : Prop := ∀ args w, (callFunc f args).run P w = .ok (.enter f args) w ∧
  CallsD P f args .returning w fun
    | .returned _, u, w' => u = .returning ∧ Grown w w'
    | .outgrown, _, _ => False
    | .panicked _, _, _ => False
structure ProgOk (E : Env) (P : Program) : Prop where
  env : EnvOk E P
  body : ∀ f fn b, E.funcs.get f = some fn → fn.body = some b → codeB fn.ntmps b = true ∧ (fn.name == "runtime.NumGoroutine") = false
  quiet : ∀ f, memN f E.dq = true → Quiet P f
  ext : ∀ f k, E.ext.get f = some k → ∀ args h nx, CallOk P f args h nx (extern E k args h nx)
  memo : ∀ f args e, memoGet E f args = some e → ∀ h nx, CallOk P f args h nx (.val (shV nx e.v) (addBs nx h e.bs) (nx + e.m))

theorem codeB_mono {N M : Nat} (hNM : N ≤ M) : ∀ {c : Code}, codeB N c = true → codeB M c = true := by
  intro c
  induction c with
  | region id ops draw =>
    intro h
    simp only [codeB, List.all_eq_true] at h ⊢
    intro o ho
    have := h o ho
    cases hd : o.dst with
    | none => rfl
    | some t =>
      rw [hd] at this
      have := Nat.le_of_ble_eq_true this
      exact Nat.ble_eq_true_of_le (by omega)
  | seq a b iha ihb => intro h; simp only [codeB, Bool.and_eq_true] at h ⊢; exact ⟨iha h.1, ihb h.2⟩
  | cond x a b iha ihb => intro h; simp only [codeB, Bool.and_eq_true] at h ⊢; exact ⟨iha h.1, ihb h.2⟩
  | block i b ih => intro h; exact ih h
  | loop b ih => intro h; exact ih h
  | scope b ih => intro h; exact ih h
  | _ => intro h; rfl
section
variable {E : Env} {P : Program} {rec : Rec}
theorem Grown.refl (w : World) : Grown w w := ⟨Nat.le_refl _, fun _ _ => rfl, SameOut.refl w⟩
theorem Grown.trans {w w' w'' : World} (a : Grown w w') (b : Grown w' w'') : Grown w w'' :=
  ⟨Nat.le_trans a.1 b.1, fun B hB => (b.2.1 B (Nat.lt_of_lt_of_le hB a.1)).trans (a.2.1 B hB), a.2.2.trans b.2.2⟩
theorem HR.grown {ρ : Rho} {h : Hp} {nx : Nat} {w w' : World} (H : HR ρ h nx w) (g : Grown w w') : HR ρ h nx w' :=
  ⟨H.glob.keep (g.2.1 _ H.glob.lt), H.away, fun b o ho => ⟨(H.obj b o ho).1, (H.obj b o ho).2.keep (H.obj b o ho).1 (Nat.le_refl _) (Ext.refl _ _) (g.2.1 _ (H.obj b o ho).2.lt)⟩, H.inj⟩
theorem Step.grown {ρ ρ' : Rho} {h h' : Hp} {nx nx' : Nat} {w w' w'' : World} (s : Step ρ h nx w ρ' h' nx' w') (g : Grown w' w'') : Step ρ h nx w ρ' h' nx' w'' :=
  ⟨s.le, s.ext, s.hr.grown g, Nat.le_trans s.size g.1, fun B hB hn => by rw [g.2.1 B (Nat.lt_of_lt_of_le hB s.size)]; exact s.old B hB hn, s.new, s.out.trans g.2.2⟩
def rd (tmps : Array Value) (r : ResultVar) : Sem Value := match r with
  | .tmp t => pure (tmps.getD t undef)
  | .cell a t => do loadVar t (← asAddr (tmps.getD a undef))
theorem results_eq (fn : Func) (tmps : Array Value) : results fn tmps = (do
  let vs ← fn.results.mapM (rd tmps)
  pure (if h : vs.size = 1 then vs[0] else .tuple vs)) := by
  unfold results
  congr 1
theorem resultOf_ok (hE : EnvOk E P) {ρ : Rho} {h : Hp} {nx : Nat} {w : World} {tm : PT AV} {tmps : Array Value} (H : HR ρ h nx w) (hT : TR ρ nx tm tmps) {r : ResultVar} {v : AV} (hr : resultOf E h tm r = some v) :
    Sc nx v ∧ (rd tmps r).run P w = .ok (conc ρ v) w := by
  cases r with
  | tmp t =>
    obtain ⟨h1, h2⟩ := hT t v hr
    exact ⟨h1, by simp [rd, Array.getD_eq_getD_getElem?, h2]⟩
  | cell a t =>
    simp only [resultOf] at hr
    split at hr
    case h_2 => cases hr
    rename_i p hp
    obtain ⟨h1, h2⟩ := hT a p hp
    cases p with
    | ptr b i =>
      obtain ⟨h3, h4⟩ := loadVar_ok (P := P) hE H hr
      exact ⟨h4, by simp [rd, Array.getD_eq_getD_getElem?, h2, conc, asAddr, h3]⟩
    | _ => cases hr
theorem resultsOf_ok (hE : EnvOk E P) {ρ : Rho} {h : Hp} {nx : Nat} {w : World} {tm : PT AV} {tmps : Array Value} (H : HR ρ h nx w) (hT : TR ρ nx tm tmps) : ∀ {rs : List ResultVar} {vs : List AV}, resultsOf E h tm rs = some vs →
    Scs nx vs ∧ (rs.mapM (rd tmps)).run P w = .ok (concs ρ vs) w
  | [], vs, hr => by
    have hr : some [] = some vs := hr
    cases hr; exact ⟨trivial, by simp [concs]⟩
  | r :: rs, vs, hr => by
    simp only [resultsOf] at hr
    split at hr
    case h_2 => cases hr
    rename_i v hv
    split at hr
    case h_2 => cases hr
    rename_i l hl
    cases hr
    obtain ⟨h1, h2⟩ := resultOf_ok (P := P) hE H hT hv
    obtain ⟨h3, h4⟩ := resultsOf_ok hE H hT hl
    refine ⟨⟨h1, h3⟩, ?_⟩
    rw [List.mapM_cons]
    simp only [Sem.run_bind, h2, h4, Result.andThen_ok, Sem.run_pure, concs]
theorem results_ok (hE : EnvOk E P) {ρ : Rho} {h : Hp} {nx : Nat} {w : World} {tm : PT AV} {tmps : Array Value} (H : HR ρ h nx w) (hT : TR ρ nx tm tmps) {fn : Func} {vs : List AV} (hr : resultsOf E h tm fn.results.toList = some vs) :
    Sc nx (one vs) ∧ (results fn tmps).run P w = .ok (conc ρ (one vs)) w := by
  obtain ⟨h1, h2⟩ := resultsOf_ok (P := P) hE H hT hr
  have h3 : (fn.results.mapM (rd tmps)).run P w = .ok (concs ρ vs).toArray w := by
    rw [Array.mapM_eq_mapM_toList]
    simp only [map_eq_pure_bind, Sem.run_bind, h2, Result.andThen_ok, Sem.run_pure]
  have h4 : (results fn tmps).run P w = .ok (if h : (concs ρ vs).toArray.size = 1 then (concs ρ vs).toArray[0] else .tuple (concs ρ vs).toArray) w := by
    rw [results_eq]
    simp only [Sem.run_bind, h3, Result.andThen_ok, Sem.run_pure]
  cases vs with
  | nil => exact ⟨trivial, by rw [h4]; simp [concs, one, conc]⟩
  | cons v r =>
    cases r with
    | nil => exact ⟨h1.1, by rw [h4]; simp [concs, one]⟩
    | cons u r => exact ⟨h1, by rw [h4]; simp [concs, one, conc]⟩
theorem leaves_ok {fn : Func} {tmps : Array Value} {ρ : Rho} {nx : Nat} {Rr : Ending → World → Prop} (hq : ∀ f, memN f E.dq = true → Quiet P f) :
    ∀ {df : List ADef} {ds : List Deferred}, DR ρ nx df ds → (df.all fun d => memN d.f E.dq) = true → ∀ w, (∀ w', Grown w w' → ∃ v, (results fn tmps).run P w' = .ok v w' ∧ Rr (.returned v) w') →
      Leaves P fn tmps Rr ds .returning w
  | [], [], _, _, w, h => h w (Grown.refl w)
  | [], _ :: _, hd, _, _, _ => hd.elim
  | _ :: _, [], hd, _, _, _ => hd.elim
  | d :: df, q :: ds, ⟨⟨h1, cap, args, h2, h3⟩, hd⟩, ha, w, h => by
    simp only [List.all_cons, Bool.and_eq_true] at ha
    obtain ⟨g1, g2⟩ := hq d.f ha.1 (concs ρ d.args).toArray w
    subst h3
    refine leaves_cons (by simp) (f := d.f) (args := (concs ρ d.args).toArray) (by rw [← h2] at g1 ⊢; exact g1) (CallsD.mono g2 fun e u w' he => ?_)
    cases e with
    | returned v =>
      obtain ⟨rfl, hg⟩ := he
      exact leaves_ok hq hd ha.2 w' fun w'' hg' => h w'' (hg.trans hg')
    | panicked c => exact he.elim
    | outgrown => exact he.elim
theorem finish_inv {fn : Func} {x : X} {tm : PT AV} {df : List ADef} {h : Hp} {nx : Nat} {v : AV} {h' : Hp} {nx' : Nat} (hr : finish E rec fn x tm df h nx = .val v h' nx') :
    (x = .normal ∨ x = .ret) ∧ (df.all fun d => memN d.f E.dq) = true ∧ ∃ vs, resultsOf E h tm fn.results.toList = some vs ∧ v = one vs ∧ h' = h ∧ nx' = nx := by
  have body : (match df with
    | [] => match resultsOf E h tm fn.results.toList with | some l => R.val (one l) h nx | none => .fail ("results " ++ fn.name)
    | _ :: _ => match df.all (fun d => memN d.f E.dq) with
      | true => match resultsOf E h tm fn.results.toList with | some l => .val (one l) h nx | none => .fail ("results " ++ fn.name)
      | false => .fail "deferred") = .val v h' nx' → (df.all fun d => memN d.f E.dq) = true ∧ ∃ vs, resultsOf E h tm fn.results.toList = some vs ∧ v = one vs ∧ h' = h ∧ nx' = nx := fun hr => by
    cases df with
    | nil =>
      simp only at hr
      split at hr
      · rename_i l hl
        cases hr
        exact ⟨rfl, l, hl, rfl, rfl, rfl⟩
      · cases hr
    | cons d df =>
      simp only at hr
      split at hr
      · rename_i hall
        split at hr
        · rename_i l hl
          cases hr
          exact ⟨hall, l, hl, rfl, rfl, rfl⟩
        · cases hr
      · cases hr
  cases x with
  | goto l => cases hr
  | exit i => cases hr
  | normal => exact ⟨.inl rfl, body hr⟩
  | ret => exact ⟨.inr rfl, body hr⟩
theorem onVal_inv {f : X → PT AV → List ADef → Hp → Nat → R} {r : R} {v : AV} {h : Hp} {nx : Nat} (hr : onCode f r = .val v h nx) :
    ∃ x1 tm1 df1 h1 nx1, r = .code x1 tm1 df1 h1 nx1 ∧ f x1 tm1 df1 h1 nx1 = .val v h nx := by
  cases r with
  | fail w => cases hr
  | val v h nx => cases hr
  | code x1 tm1 df1 h1 nx1 => exact ⟨x1, tm1, df1, h1, nx1, rfl, hr⟩
theorem ofListFrom_get {α : Type} : ∀ (l : List α) (i : Nat) (t : PT α) (j : Nat), (PT.ofListFrom i l t).get j = if i ≤ j ∧ j < i + l.length then l[j - i]? else t.get j
  | [], i, t, j => by rw [if_neg (by simp only [List.length_nil]; omega)]; rfl
  | x :: l, i, t, j => by
    show (PT.ofListFrom (i + 1) l (t.set i x)).get j = _
    rw [ofListFrom_get l, PT.get_set]
    by_cases h : i + 1 ≤ j ∧ j < i + 1 + l.length
    · rw [if_pos h, if_pos (by simp only [List.length_cons]; omega)]
      obtain ⟨k, rfl⟩ : ∃ k, j = i + 1 + k := ⟨j - (i + 1), by omega⟩
      rw [show i + 1 + k - (i + 1) = k from by omega, show i + 1 + k - i = k + 1 from by omega, List.getElem?_cons_succ]
    · rw [if_neg h]
      by_cases h2 : i = j
      · subst h2; rw [if_pos rfl, if_pos (by simp only [List.length_cons]; omega), Nat.sub_self, List.getElem?_cons_zero]
      · rw [if_neg h2, if_neg (by simp only [List.length_cons]; omega)]
theorem ofList_get {α : Type} (l : List α) (j : Nat) : (PT.ofList l).get j = l[j]? := by
  unfold PT.ofList
  rw [ofListFrom_get]
  by_cases h : j < l.length
  · rw [if_pos (by omega), Nat.sub_zero]
  · rw [if_neg (by omega), PT.get_nil, List.getElem?_eq_none (by omega)]
theorem stepCall_ok (hP : ProgOk E P) (hrec : RecOk P rec) (f : Nat) (args : List AV) (h : Hp) (nx : Nat) : CallOk P f args h nx (stepCall E rec f args h nx) := by
  unfold stepCall
  split
  · rename_i e he; exact hP.memo f args e he h nx
  split
  · rename_i k hk; exact hP.ext f k hk args h nx
  · intro v h' nx' hr ρ w H hargs
    split at hr
    case h_2 => cases hr
    rename_i fn hfn
    split at hr
    case h_2 => cases hr
    rename_i b hb
    obtain ⟨x1, tm1, df1, h1, nx1, e1, e2⟩ := onVal_inv hr
    obtain ⟨hx, hq, vs, hvs, rfl, rfl, rfl⟩ := finish_inv e2
    obtain ⟨hB, hname⟩ := hP.body f fn b hfn hb
    have hf := hP.env.funcs _ _ hfn
    have hcf : (callFunc f (concs ρ args).toArray).run P w = .ok (.enter f (concs ρ args).toArray) w := by
      simp [callFunc, hf, hb]
      simpa using hname
    refine .inr ⟨hcf, calls_of_wp_defers hf hb ?_⟩
    have st : St ρ h nx (PT.ofList args) [] ((concs ρ args).toArray ++ Array.replicate (fn.ntmps - (concs ρ args).toArray.size) undef).size { tmps := (concs ρ args).toArray ++ Array.replicate (fn.ntmps - (concs ρ args).toArray.size) undef, defers := [] } w := by
      refine ⟨H, fun t u ht => ?_, trivial, rfl⟩
      rw [ofList_get] at ht
      refine ⟨Scs_get hargs ht, ?_⟩
      have hlt : t < (concs ρ args).length := by have := (List.getElem?_eq_some_iff.1 ht).1; simpa using this
      rw [Array.getElem?_append_left (by simpa using hlt)]
      simp [concs_get, ht]
    have hwp := (hrec.1 _ b (codeB_mono (by simp; omega) hB) _ _ _ _ _ _ _ _ _ e1 ρ _ w st).wp
    refine wp_mono hwp fun e a1 w1 p => ?_
    rcases p with hF | ⟨rfl, ρ1, s1, st1⟩
    · exact hF.elim
    · have fin : Leaves P fn a1.tmps (fun | .returned u, w' => ValOk ρ h nx w (one vs) h' nx' u w' | .outgrown, _ => False | .panicked _, _ => False) a1.defers .returning w1 :=
        leaves_ok hP.quiet st1.dr hq w1 fun w' hg => by
          obtain ⟨g1, g2⟩ := results_ok (P := P) hP.env (st1.hr.grown hg) st1.tr hvs
          exact ⟨_, g2, ρ1, s1.grown hg, g1, rfl⟩
      rcases hx with rfl | rfl
      · exact fin
      · exact fin
theorem step_ok (hP : ProgOk E P) (hrec : RecOk P rec) (hdraw : DrawOk E P rec) : RecOk P (step E rec) :=
  ⟨fun N c hc tm df h nx x tm' df' h' nx' hr => stepCode_ok hP.env hrec hdraw N c hc tm df h nx x tm' df' h' nx' hr,
   fun N cur body hc hb tm df h nx x tm' df' h' nx' hr => stepScope_ok hrec N cur body hc hb tm df h nx x tm' df' h' nx' hr,
   fun f args h nx => stepCall_ok hP hrec f args h nx⟩
theorem ev_ok (hP : ProgOk E P) (hdraw : ∀ rec, RecOk P rec → DrawOk E P rec) : ∀ n, RecOk P (ev E n)
  | 0 => ⟨(by intro N c hc tm df h nx x tm' df' h' nx' hr; cases hr), (by intro N cur body hc hb tm df h nx x tm' df' h' nx' hr; cases hr), (by intro f args h nx v h' nx' hr; cases hr)⟩
  | n + 1 => step_ok hP (ev_ok hP hdraw n) (hdraw _ (ev_ok hP hdraw n))
end
end Go.Ev
/-! THE EVALUATOR's SOUNDNESS, 20: an operation looks at its operands alone. -/
namespace Go.Ev
open Go
section
variable {E : Env} {h : Hp} {nx : Nat} {s s' : PT AV}

theorem op1_congr {x : Operand} (hx : evalOp s x = evalOp s' x) {k k' : AV → O} (hk : ∀ v, k v = k' v) : op1 s x k = op1 s' x k' := by
  unfold Ev.op1
  rw [hx]
  cases evalOp s' x with
  | none => rfl
  | some v => exact hk v
theorem evalOps_congr : ∀ {l : List Operand}, (∀ x ∈ l, evalOp s x = evalOp s' x) → evalOps s l = evalOps s' l
  | [], _ => rfl
  | x :: l, h => by
    simp only [evalOps]
    rw [h x (List.mem_cons_self ..), evalOps_congr fun y hy => h y (List.mem_cons_of_mem _ hy)]
theorem fill_congr {place : Nat → Option (Nat × Nat)} : ∀ {ps : List (Nat × Operand)} {cs : List AV}, (∀ x ∈ ps.map (·.2), evalOp s x = evalOp s' x) → fill place s cs ps = fill place s' cs ps
  | [], cs, _ => by simp [fill]
  | (i, x) :: ps, cs, h => by
    have ih : ∀ c, fill place s c ps = fill place s' c ps := fun c => fill_congr fun y hy => h y (by simp only [List.map_cons, List.mem_cons]; exact .inr hy)
    simp only [fill, ih]
    rw [h x (by simp)]
theorem bound_congr {x : Option Operand} (h : ∀ y, x = some y → evalOp s y = evalOp s' y) (d : Nat) : bound s d x = bound s' d x := by
  cases x with
  | none => rfl
  | some y => simp only [bound]; rw [h y rfl]
theorem sliceV_congr {t : Nat} {v : AV} {lo hi mx : Option Operand} (h1 : ∀ d, bound s d lo = bound s' d lo) (h2 : ∀ d, bound s d hi = bound s' d hi) (h3 : ∀ d, bound s d mx = bound s' d mx) :
    sliceV E s h t v lo hi mx = sliceV E s' h t v lo hi mx := by
  have e1 : ∀ z b o l c, sliceKnown s z b o l c lo hi mx = sliceKnown s' z b o l c lo hi mx := fun z b o l c => by unfold sliceKnown; rw [h1, h2, h3]
  have e2 : ∀ l n, sliceStr s l n lo hi = sliceStr s' l n lo hi := fun l n => by unfold sliceStr; rw [h1, h2]
  have e3 : noBounds s lo hi mx = noBounds s' lo hi mx := by unfold noBounds; rw [h1, h2]
  cases v <;> simp only [sliceV, e1, e2, e3, h1, h2]
theorem op_congr (o : Op) (hx : ∀ x ∈ o.operands, evalOp s x = evalOp s' x) : op E s h nx o = op E s' h nx o := by
  cases o <;> simp only [Op.operands] at hx
  case move x => exact congrArg oV (hx x (by simp))
  case assign x => exact congrArg oV (hx x (by simp))
  case pick c a b =>
    refine op1_congr (hx c (by simp)) fun v => ?_
    rw [hx a (by simp), hx b (by simp)]
  case alloc t => rfl
  case box t x => exact op1_congr (hx x (by simp)) fun v => rfl
  case build t ps =>
    show oV (buildV E s t ps.toList) = oV (buildV E s' t ps.toList)
    unfold buildV
    have e : ∀ place cs, fill place s cs ps.toList = fill place s' cs ps.toList := fun place cs => fill_congr fun x hm => hx x (by simpa using hm)
    simp only [e]
  case buildSlice t n ps =>
    show buildSliceV E s h nx t n ps.toList = buildSliceV E s' h nx t n ps.toList
    unfold buildSliceV
    have e : ∀ place cs, fill place s cs ps.toList = fill place s' cs ps.toList := fun place cs => fill_congr fun x hm => hx x (by simpa using hm)
    simp only [e]
  case insert t m k x => exact op1_congr (hx m (by simp)) fun m => op1_congr (hx k (by simp)) fun k => op1_congr (hx x (by simp)) fun x => rfl
  case load t x => exact op1_congr (hx x (by simp)) fun v => rfl
  case store t a x => exact op1_congr (hx a (by simp)) fun v => op1_congr (hx x (by simp)) fun v => rfl
  case ready g => rfl
  case waits g => rfl
  case nilCheck x => exact op1_congr (hx x (by simp)) fun v => rfl
  case binOp b t x y z => exact op1_congr (hx x (by simp)) fun v => op1_congr (hx y (by simp)) fun v => rfl
  case unOp u t x => exact op1_congr (hx x (by simp)) fun v => rfl
  case convert a b x => exact op1_congr (hx x (by simp)) fun v => rfl
  case sliceToArrayPointer t x => rfl
  case makeInterface t x => exact op1_congr (hx x (by simp)) fun v => rfl
  case makeFunc fn a b =>
    show makeFuncV s fn a.toList b.toList = makeFuncV s' fn a.toList b.toList
    unfold makeFuncV
    rw [evalOps_congr (l := a.toList) fun x hm => hx x (by simp at hm ⊢; exact .inl hm), evalOps_congr (l := b.toList) fun x hm => hx x (by simp at hm ⊢; exact .inr hm)]
  case makeMap t r =>
    show makeMapV E s h nx t r = makeMapV E s' h nx t r
    cases r with
    | none => rfl
    | some x => simp only [makeMapV]; rw [hx x (by simp)]
  case makeChan t x => rfl
  case makeSlice t x y => exact op1_congr (hx x (by simp)) fun v => op1_congr (hx y (by simp)) fun v => rfl
  case slice t x lo hi mx =>
    refine op1_congr (hx x (by simp)) fun v => congrArg oV (sliceV_congr (bound_congr fun y hy => hx y ?_) (bound_congr fun y hy => hx y ?_) (bound_congr fun y hy => hx y ?_)) <;> subst hy <;> simp
  case fieldAddr t x i => exact op1_congr (hx x (by simp)) fun v => rfl
  case field t x i => exact op1_congr (hx x (by simp)) fun v => rfl
  case indexAddr t x y => exact op1_congr (hx x (by simp)) fun v => op1_congr (hx y (by simp)) fun v => rfl
  case index t x y => exact op1_congr (hx x (by simp)) fun v => op1_congr (hx y (by simp)) fun v => rfl
  case lookup t x y ok => exact op1_congr (hx x (by simp)) fun v => op1_congr (hx y (by simp)) fun v => rfl
  case mapUpdate t m k x => exact op1_congr (hx m (by simp)) fun m => op1_congr (hx k (by simp)) fun k => op1_congr (hx x (by simp)) fun x => rfl
  case mapEntry t x y => exact op1_congr (hx x (by simp)) fun v => op1_congr (hx y (by simp)) fun v => rfl
  case entryStore t m k x => exact op1_congr (hx m (by simp)) fun m => op1_congr (hx k (by simp)) fun k => op1_congr (hx x (by simp)) fun x => rfl
  case range t x => exact op1_congr (hx x (by simp)) fun v => rfl
  case next x b => exact op1_congr (hx x (by simp)) fun v => rfl
  case entry x => exact op1_congr (hx x (by simp)) fun v => rfl
  case typeAssert x t u ok => exact op1_congr (hx x (by simp)) fun v => rfl
  case extract x i => exact op1_congr (hx x (by simp)) fun v => rfl
  case call c =>
    show callOp E s h nx c = callOp E s' h nx c
    unfold callOp
    rw [evalOps_congr (l := c.args.toList) fun x hm => hx x (by simp only [Call.operands]; simp at hm ⊢; exact .inr hm)]
    cases hc : c.callee with
    | builtin b => rfl
    | invoke r m => rfl
    | value f =>
      have := hx f (by simp [Call.operands, hc])
      simp only
      cases evalOps s' c.args.toList with
      | none => rfl
      | some args => exact op1_congr this fun v => rfl
  case go c => rfl
  case defer c =>
    show deferOp s c = deferOp s' c
    unfold deferOp
    rw [evalOps_congr (l := c.args.toList) fun x hm => hx x (by simp only [Call.operands]; simp at hm ⊢; exact .inr hm)]
    cases hc : c.callee with
    | builtin b => rfl
    | invoke r m => rfl
    | value f =>
      have := hx f (by simp [Call.operands, hc])
      simp only
      cases evalOps s' c.args.toList with
      | none => rfl
      | some args => exact op1_congr this fun v => rfl
  case panic x => rfl
  case send x y => rfl
  case recv x y z => rfl
  case select x y => rfl
end
end Go.Ev
/-! THE EVALUATOR's SOUNDNESS, 21: the regions that draw: who comes ahead of whom; what the first phase tells. -/
namespace Go.Ev
open Go

theorem bit_eq (n i : Nat) : bit n i = n.testBit i := by
  rw [Nat.testBit_eq_decide_div_mod_eq, Bool.eq_iff_iff]
  unfold bit
  simp
  exact Iff.rfl
theorem edgesOr_spec (acc : List Nat) (k x : Nat) : ∀ (es : List Edge) (n : Nat),
    (edgesOr acc k es n).testBit x = true ↔ n.testBit x = true ∨ ∃ e ∈ es, Region.binds .any e = true ∧ e.on < k ∧ ∃ m, acc[k - 1 - e.on]? = some m ∧ (m.testBit x = true ∨ e.on = x)
  | [], n => by simp [edgesOr]
  | e :: es, n => by
    have ih := edgesOr_spec acc k x es
    simp only [edgesOr]
    cases hb : Region.binds .any e with
    | false =>
      simp only
      rw [ih]
      constructor
      · rintro (h | ⟨e', he', h⟩)
        · exact .inl h
        · exact .inr ⟨e', List.mem_cons_of_mem _ he', h⟩
      · rintro (h | ⟨e', he', h⟩)
        · exact .inl h
        · rcases List.mem_cons.1 he' with rfl | he'
          · rw [hb] at h; exact absurd h.1 (by simp)
          · exact .inr ⟨e', he', h⟩
    | true =>
      simp only
      cases hlt : Nat.blt e.on k with
      | false =>
        have hlt : ¬ e.on < k := fun h => by rw [show Nat.blt e.on k = true from Nat.ble_eq_true_of_le h] at hlt; cases hlt
        simp only
        rw [ih]
        constructor
        · rintro (h | ⟨e', he', h⟩)
          · exact .inl h
          · exact .inr ⟨e', List.mem_cons_of_mem _ he', h⟩
        · rintro (h | ⟨e', he', h⟩)
          · exact .inl h
          · rcases List.mem_cons.1 he' with rfl | he'
            · exact absurd h.2.1 hlt
            · exact .inr ⟨e', he', h⟩
      | true =>
        have hlt : e.on < k := Nat.le_of_ble_eq_true hlt
        simp only [nth_eq]
        have hsub : Nat.sub (Nat.sub k 1) e.on = k - 1 - e.on := rfl
        rw [hsub]
        cases hm : acc[k - 1 - e.on]? with
        | none =>
          simp only
          rw [ih]
          constructor
          · rintro (h | ⟨e', he', h⟩)
            · exact .inl h
            · exact .inr ⟨e', List.mem_cons_of_mem _ he', h⟩
          · rintro (h | ⟨e', he', h⟩)
            · exact .inl h
            · rcases List.mem_cons.1 he' with rfl | he'
              · obtain ⟨_, _, m, h3, _⟩ := h; rw [hm] at h3; cases h3
              · exact .inr ⟨e', he', h⟩
        | some m =>
          simp only
          rw [ih]
          have hor : (Nat.lor (Nat.lor n m) (Nat.pow 2 e.on)).testBit x = true ↔ n.testBit x = true ∨ m.testBit x = true ∨ e.on = x := by
            show ((n ||| m) ||| 2 ^ e.on).testBit x = true ↔ _
            rw [Nat.testBit_or, Nat.testBit_or, Nat.testBit_two_pow]
            simp [or_assoc]
          rw [hor]
          constructor
          · rintro ((h | h) | ⟨e', he', h⟩)
            · exact .inl h
            · exact .inr ⟨e, List.mem_cons_self .., hb, hlt, m, hm, h⟩
            · exact .inr ⟨e', List.mem_cons_of_mem _ he', h⟩
          · rintro (h | ⟨e', he', h⟩)
            · exact .inl (.inl h)
            · rcases List.mem_cons.1 he' with rfl | he'
              · obtain ⟨_, _, m', h3, h4⟩ := h
                rw [hm] at h3; cases h3
                exact .inl (.inr h4)
              · exact .inr ⟨e', he', h⟩
theorem befs_spec : ∀ (l : List Oper) (k : Nat) (acc : List Nat), acc.length = k → ∃ r, (befs l k acc).reverse = acc.reverse ++ r ∧ r.length = l.length ∧
    ∀ i o, l[i]? = some o → (acc.reverse ++ r)[k + i]? = some (edgesOr ((acc.reverse ++ r).take (k + i)).reverse (k + i) o.after.toList 0)
  | [], k, acc, _ => ⟨[], by simp [befs], rfl, fun i o h => by simp at h⟩
  | o :: l, k, acc, hk => by
    obtain ⟨r, h1, h2, h3⟩ := befs_spec l (k + 1) (edgesOr acc k o.after.toList 0 :: acc) (by simp [hk])
    have e : (edgesOr acc k o.after.toList 0 :: acc).reverse ++ r = acc.reverse ++ (edgesOr acc k o.after.toList 0 :: r) := by simp
    rw [e] at h1 h3
    refine ⟨edgesOr acc k o.after.toList 0 :: r, h1, by simp [h2], fun i o' hi => ?_⟩
    cases i with
    | zero =>
      simp only [List.getElem?_cons_zero, Option.some.injEq] at hi
      subst hi
      rw [Nat.add_zero, List.getElem?_append_right (by simp [hk]), List.take_append_of_le_length (by simp [hk])]
      simp [hk, List.take_of_length_le]
    | succ i =>
      have := h3 i o' (by simpa using hi)
      rw [show k + (i + 1) = k + 1 + i from by omega]
      exact this
theorem revOnto_eq : ∀ (l acc : List Nat), revOnto l acc = l.reverse ++ acc
  | [], acc => rfl
  | x :: l, acc => by simp [revOnto, revOnto_eq l]
theorem befsOf_length (l : List Oper) : (befsOf l).length = l.length := by
  obtain ⟨r, h1, h2, _⟩ := befs_spec l 0 [] rfl
  unfold befsOf
  rw [revOnto_eq, List.append_nil, h1]
  simpa using h2
/-- Who comes ahead: a bound edge, or ahead of whom a bound edge names. -/
theorem befsOf_spec {l : List Oper} {i : Nat} {o : Oper} (hi : l[i]? = some o) : ∃ b, (befsOf l)[i]? = some b ∧
    ∀ x, bit b x = true ↔ ∃ e ∈ o.after.toList, Region.binds .any e = true ∧ e.on < i ∧ ∃ m, (befsOf l)[e.on]? = some m ∧ (bit m x = true ∨ e.on = x) := by
  obtain ⟨r, h1, h2, h3⟩ := befs_spec l 0 [] rfl
  have e : befsOf l = r := by
    unfold befsOf
    rw [revOnto_eq, List.append_nil, h1]
    rfl
  rw [e]
  have := h3 i o hi
  simp only [List.reverse_nil, List.nil_append, Nat.zero_add] at this
  refine ⟨_, this, fun x => ?_⟩
  simp only [bit_eq]
  rw [edgesOr_spec]
  have hil : i < r.length := (List.getElem?_eq_some_iff.1 this).1
  constructor
  · rintro (h | ⟨e', he', hb, hlt, m, hm, h⟩)
    · simp at h
    · refine ⟨e', he', hb, hlt, m, ?_, h⟩
      rw [List.getElem?_reverse (by simp; omega)] at hm
      rw [List.getElem?_take] at hm
      simp only [List.length_take, Nat.min_eq_left (Nat.le_of_lt hil)] at hm
      rw [if_pos (by omega)] at hm
      rw [← hm]
      congr 1
      omega
  · rintro ⟨e', he', hb, hlt, m, hm, h⟩
    refine .inr ⟨e', he', hb, hlt, m, ?_, h⟩
    rw [List.getElem?_reverse (by simp; omega)]
    rw [List.getElem?_take]
    simp only [List.length_take, Nat.min_eq_left (Nat.le_of_lt hil)]
    rw [if_pos (by omega)]
    rw [← hm]
    congr 1
    omega
section
variable {E : Env} {rec : Rec} {ops : List Oper}
def tmOf (trs : List Tr) (tmF : PT AV) (i : Nat) : PT AV := match trs[i]? with | some t => t.tm | none => tmF
def kOf (trs : List Tr) (M i : Nat) : Nat := match trs[i]? with | some t => t.k | none => M
/-- What is known of one operation's first phase. -/
structure TrOk (E : Env) (rec : Rec) (ops : List Oper) (k : Nat) (sts : List Sg) (M : Nat) (o : Oper) (t : Tr) (tm' : PT AV) (k' : Nat) : Prop where
  tm' : tm' = putT t.tm o.dst t.v
  want : wantO ops t.tm o = some t.run
  le : k ≤ t.k
  leM : t.k ≤ M
  skip : t.run = false → t.v = .undef ∧ k' = t.k
  pure : t.run = true → clsOf o = 0 → (∃ nx', pvOf (op E t.tm .nil nx' o.op) = some t.v) ∧ k' = t.k
  read : t.run = true → clsOf o = 1 → k' = t.k
  acts : t.run = true → 2 ≤ clsOf o → k' = t.k + 1 ∧ ∃ g g', sts[t.k - k]? = some g ∧ sts[t.k + 1 - k]? = some g' ∧ actR rec g.df g.h g.nx (op E t.tm g.h g.nx o.op) = some (t.v, g'.df, g'.h, g'.nx)
theorem phase1_ok : ∀ (l : List Oper) (k : Nat) (tm : PT AV) (df : List ADef) (h : Hp) (nx : Nat) (trs : List Tr) (sts : List Sg) (tmF : PT AV) (dfF : List ADef) (hF : Hp) (nxF : Nat),
    phase1 E rec ops l k tm df h nx = .ok trs sts tmF dfF hF nxF →
    ∃ M, sts.length = M + 1 - k ∧ k ≤ M ∧ trs.length = l.length ∧ sts[0]? = some ⟨h, nx, df⟩ ∧ sts[M - k]? = some ⟨hF, nxF, dfF⟩ ∧ tmOf trs tmF 0 = tm ∧ kOf trs M 0 = k ∧
      ∀ i o, l[i]? = some o → ∃ t, trs[i]? = some t ∧ TrOk E rec ops k sts M o t (tmOf trs tmF (i + 1)) (kOf trs M (i + 1))
  | [], k, tm, df, h, nx, trs, sts, tmF, dfF, hF, nxF, hr => by
    cases hr
    exact ⟨k, by simp, Nat.le_refl _, rfl, rfl, by simp, rfl, rfl, fun i o hi => by simp at hi⟩
  | o :: l, k, tm, df, h, nx, trs, sts, tmF, dfF, hF, nxF, hr => by
    simp only [phase1] at hr
    -- no stage
    have flat : ∀ (b : Bool) (v : AV), P1.cons ⟨tm, b, v, k⟩ (phase1 E rec ops l k (putT tm o.dst v) df h nx) = .ok trs sts tmF dfF hF nxF → wantO ops tm o = some b → (b = false → v = .undef) →
        (b = true → clsOf o = 0 → ∃ nx', pvOf (op E tm .nil nx' o.op) = some v) → (b = true → ¬ 2 ≤ clsOf o) →
        ∃ M, sts.length = M + 1 - k ∧ k ≤ M ∧ trs.length = (o :: l).length ∧ sts[0]? = some ⟨h, nx, df⟩ ∧ sts[M - k]? = some ⟨hF, nxF, dfF⟩ ∧ tmOf trs tmF 0 = tm ∧ kOf trs M 0 = k ∧
          ∀ i o', (o :: l)[i]? = some o' → ∃ t, trs[i]? = some t ∧ TrOk E rec ops k sts M o' t (tmOf trs tmF (i + 1)) (kOf trs M (i + 1)) := fun b v hc hw hu hp h2 => by
      cases hq : phase1 E rec ops l k (putT tm o.dst v) df h nx with
      | bad w => rw [hq] at hc; cases hc
      | ok trs' sts' tmF' dfF' hF' nxF' =>
        rw [hq] at hc
        cases hc
        obtain ⟨M, g1, g2, g3, g4, g5, g6, g7, g8⟩ := phase1_ok l k _ df h nx _ _ _ _ _ _ hq
        refine ⟨M, g1, g2, by simp [g3], g4, g5, rfl, rfl, fun i o' hi => ?_⟩
        cases i with
        | zero =>
          simp only [List.getElem?_cons_zero, Option.some.injEq] at hi
          subst hi
          exact ⟨_, rfl, by show tmOf trs' tmF 0 = _; exact g6, hw, Nat.le_refl _, g2, fun hb => ⟨hu hb, g7⟩, fun hb h0 => ⟨hp hb h0, g7⟩, fun hb h1 => g7, fun hb h3 => absurd h3 (h2 hb)⟩
        | succ i => exact g8 i o' (by simpa using hi)
    split at hr
    · cases hr
    · rename_i b hw
      split at hr
      · exact flat false .undef hr hw (fun _ => rfl) (fun h => by cases h) (fun h => by cases h)
      · split at hr
        · rename_i hc
          split at hr
          · rename_i v hv
            exact flat true v hr hw (fun h => by cases h) (fun _ _ => ⟨nx, hv⟩) (fun _ h2 => by omega)
          · cases hr
        · rename_i hc
          split at hr
          · rename_i v hv
            exact flat true v hr hw (fun h => by cases h) (fun _ h0 => by omega) (fun _ h2 => by omega)
          · cases hr
        · rename_i n0 n1
          split at hr
          · rename_i v df' h' nx' hv
            cases hq : phase1 E rec ops l (k + 1) (putT tm o.dst v) df' h' nx' with
            | bad w => rw [hq] at hr; cases hr
            | ok trs' sts' tmF' dfF' hF' nxF' =>
              rw [hq] at hr
              cases hr
              obtain ⟨M, g1, g2, g3, g4, g5, g6, g7, g8⟩ := phase1_ok l (k + 1) _ df' h' nx' _ _ _ _ _ _ hq
              refine ⟨M, by simp only [List.length_cons]; omega, by omega, by simp [g3], rfl, ?_, rfl, rfl, fun i o' hi => ?_⟩
              · rw [show M - k = (M - (k + 1)) + 1 from by omega]; exact g5
              · cases i with
                | zero =>
                  simp only [List.getElem?_cons_zero, Option.some.injEq] at hi
                  subst hi
                  refine ⟨_, rfl, by show tmOf trs' tmF 0 = _; exact g6, hw, Nat.le_refl _, by show k ≤ M; omega, fun hb => (by cases hb), fun hb h0 => absurd h0 n0, fun hb h1 => absurd h1 n1, fun hb h3 => ⟨g7, ⟨h, nx, df⟩, ⟨h', nx', df'⟩, ?_, ?_, hv⟩⟩
                  · show (_ :: sts')[k - k]? = _; rw [Nat.sub_self]; rfl
                  · show (_ :: sts')[k + 1 - k]? = _; rw [show k + 1 - k = 0 + 1 from by omega]; exact g4
                | succ i =>
                  obtain ⟨t, k1, k2⟩ := g8 i o' (by simpa using hi)
                  refine ⟨t, k1, k2.tm', k2.want, by have := k2.le; omega, k2.leM, k2.skip, k2.pure, k2.read, fun hb h3 => ?_⟩
                  obtain ⟨q1, g, g', q2, q3, q4⟩ := k2.acts hb h3
                  have := k2.le
                  refine ⟨q1, g, g', ?_, ?_, q4⟩
                  · rw [show t.k - k = (t.k - (k + 1)) + 1 from by omega]; exact q2
                  · rw [show t.k + 1 - k = (t.k + 1 - (k + 1)) + 1 from by omega]; exact q3
          · cases hr
end
end Go.Ev
