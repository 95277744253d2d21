import Derived.Test.YtcfmdhkopcijoabGreatDoorEvH
set_option linter.all false
/-! THE FAST EVALUATOR, 2: the evaluator in a form that costs the kernel less; it answers as 'ev'. -/
noncomputable section
namespace Go.Ev
open Go
def vInt (v : AV) (k0 : IntKind → Int → O) (e : O) : O :=
  AV.rec (motive_1 := fun _ => (IntKind → Int → O) → O → O) (motive_2 := fun _ => Unit) (fun _ _ e => e) (fun a0 a1 k _ => k a0 a1) (fun _ _ _ e => e) (fun _ _ _ e => e) (fun _ e => e) (fun _ _ _ _ _ e => e) (fun _ _ _ _ _ e => e) (fun _ _ _ _ _ e => e) (fun _ e => e) (fun _ _ e => e) (fun _ e => e) (fun _ _ _ _ _ _ e => e) (fun _ e => e) (fun _ _ _ _ e => e) (fun _ e => e) (fun _ _ _ e => e) (fun _ _ _ e => e) (fun _ _ e => e) () (fun _ _ _ _ => ()) v k0 e
def vPtr (v : AV) (k0 : Nat → Nat → O) (e : O) : O :=
  AV.rec (motive_1 := fun _ => (Nat → Nat → O) → O → O) (motive_2 := fun _ => Unit) (fun _ _ e => e) (fun _ _ _ e => e) (fun _ _ _ e => e) (fun a0 a1 k _ => k a0 a1) (fun _ e => e) (fun _ _ _ _ _ e => e) (fun _ _ _ _ _ e => e) (fun _ _ _ _ _ e => e) (fun _ e => e) (fun _ _ e => e) (fun _ e => e) (fun _ _ _ _ _ _ e => e) (fun _ e => e) (fun _ _ _ _ e => e) (fun _ e => e) (fun _ _ _ e => e) (fun _ _ _ e => e) (fun _ _ e => e) () (fun _ _ _ _ => ()) v k0 e
def vBool (v : AV) (k0 : Bool → O) (e : O) : O :=
  AV.rec (motive_1 := fun _ => (Bool → O) → O → O) (motive_2 := fun _ => Unit) (fun a0 k _ => k a0) (fun _ _ _ e => e) (fun _ _ _ e => e) (fun _ _ _ e => e) (fun _ e => e) (fun _ _ _ _ _ e => e) (fun _ _ _ _ _ e => e) (fun _ _ _ _ _ e => e) (fun _ e => e) (fun _ _ e => e) (fun _ e => e) (fun _ _ _ _ _ _ e => e) (fun _ e => e) (fun _ _ _ _ e => e) (fun _ e => e) (fun _ _ _ e => e) (fun _ _ _ e => e) (fun _ _ e => e) () (fun _ _ _ _ => ()) v k0 e
def vStr (v : AV) (k0 : Nat → Nat → O) (e : O) : O :=
  AV.rec (motive_1 := fun _ => (Nat → Nat → O) → O → O) (motive_2 := fun _ => Unit) (fun _ _ e => e) (fun _ _ _ e => e) (fun a0 a1 k _ => k a0 a1) (fun _ _ _ e => e) (fun _ e => e) (fun _ _ _ _ _ e => e) (fun _ _ _ _ _ e => e) (fun _ _ _ _ _ e => e) (fun _ e => e) (fun _ _ e => e) (fun _ e => e) (fun _ _ _ _ _ _ e => e) (fun _ e => e) (fun _ _ _ _ e => e) (fun _ e => e) (fun _ _ _ e => e) (fun _ _ _ e => e) (fun _ _ e => e) () (fun _ _ _ _ => ()) v k0 e
def vTuple (v : AV) (k0 : List AV → O) (e : O) : O :=
  AV.rec (motive_1 := fun _ => (List AV → O) → O → O) (motive_2 := fun _ => Unit) (fun _ _ e => e) (fun _ _ _ e => e) (fun _ _ _ e => e) (fun _ _ _ e => e) (fun _ e => e) (fun _ _ _ _ _ e => e) (fun _ _ _ _ _ e => e) (fun _ _ _ _ _ e => e) (fun _ e => e) (fun _ _ e => e) (fun _ e => e) (fun _ _ _ _ _ _ e => e) (fun _ e => e) (fun _ _ _ _ e => e) (fun _ e => e) (fun _ _ _ e => e) (fun a0 _ k _ => k a0) (fun _ _ e => e) () (fun _ _ _ _ => ()) v k0 e
def vAgg (v : AV) (k0 : List AV → O) (e : O) : O :=
  AV.rec (motive_1 := fun _ => (List AV → O) → O → O) (motive_2 := fun _ => Unit) (fun _ _ e => e) (fun _ _ _ e => e) (fun _ _ _ e => e) (fun _ _ _ e => e) (fun _ e => e) (fun _ _ _ _ _ e => e) (fun _ _ _ _ _ e => e) (fun _ _ _ _ _ e => e) (fun _ e => e) (fun _ _ e => e) (fun _ e => e) (fun _ _ _ _ _ _ e => e) (fun _ e => e) (fun _ _ _ _ e => e) (fun _ e => e) (fun a0 _ k _ => k a0) (fun _ _ _ e => e) (fun _ _ e => e) () (fun _ _ _ _ => ()) v k0 e
def vAggL (v : AV) (k0 : List AV → List AV) (e : List AV) : List AV :=
  AV.rec (motive_1 := fun _ => (List AV → List AV) → List AV → List AV) (motive_2 := fun _ => Unit) (fun _ _ e => e) (fun _ _ _ e => e) (fun _ _ _ e => e) (fun _ _ _ e => e) (fun _ e => e) (fun _ _ _ _ _ e => e) (fun _ _ _ _ _ e => e) (fun _ _ _ _ _ e => e) (fun _ e => e) (fun _ _ e => e) (fun _ e => e) (fun _ _ _ _ _ _ e => e) (fun _ e => e) (fun _ _ _ _ e => e) (fun _ e => e) (fun a0 _ k _ => k a0) (fun _ _ _ e => e) (fun _ _ e => e) () (fun _ _ _ _ => ()) v k0 e
def vBoolR (v : AV) (k0 : Bool → R) (e : R) : R :=
  AV.rec (motive_1 := fun _ => (Bool → R) → R → R) (motive_2 := fun _ => Unit) (fun a0 k _ => k a0) (fun _ _ _ e => e) (fun _ _ _ e => e) (fun _ _ _ e => e) (fun _ e => e) (fun _ _ _ _ _ e => e) (fun _ _ _ _ _ e => e) (fun _ _ _ _ _ e => e) (fun _ e => e) (fun _ _ e => e) (fun _ e => e) (fun _ _ _ _ _ _ e => e) (fun _ e => e) (fun _ _ _ _ e => e) (fun _ e => e) (fun _ _ _ e => e) (fun _ _ _ e => e) (fun _ _ e => e) () (fun _ _ _ _ => ()) v k0 e
def vIndexAddr (v : AV) (k0 : Nat → Nat → Nat → Nat → O) (k1 : Nat → Nat → Nat → Nat → O) (e : O) : O :=
  AV.rec (motive_1 := fun _ => (Nat → Nat → Nat → Nat → O) → (Nat → Nat → Nat → Nat → O) → O → O) (motive_2 := fun _ => Unit) (fun _ _ _ e => e) (fun _ _ _ _ e => e) (fun _ _ _ _ e => e) (fun _ _ _ _ e => e) (fun _ _ e => e) (fun a0 a1 a2 a3 k _ _ => k a0 a1 a2 a3) (fun a0 a1 a2 a3 _ k _ => k a0 a1 a2 a3) (fun _ _ _ _ _ _ e => e) (fun _ _ e => e) (fun _ _ _ e => e) (fun _ _ e => e) (fun _ _ _ _ _ _ _ e => e) (fun _ _ e => e) (fun _ _ _ _ _ e => e) (fun _ _ e => e) (fun _ _ _ _ e => e) (fun _ _ _ _ e => e) (fun _ _ _ e => e) () (fun _ _ _ _ => ()) v k0 k1 e
def vAT (v : AV) (k0 : List AV → Bool) (k1 : List AV → Bool) (e : Bool) : Bool :=
  AV.rec (motive_1 := fun _ => (List AV → Bool) → (List AV → Bool) → Bool → Bool) (motive_2 := fun _ => Unit) (fun _ _ _ e => e) (fun _ _ _ _ e => e) (fun _ _ _ _ e => e) (fun _ _ _ _ e => e) (fun _ _ e => e) (fun _ _ _ _ _ _ e => e) (fun _ _ _ _ _ _ e => e) (fun _ _ _ _ _ _ e => e) (fun _ _ e => e) (fun _ _ _ e => e) (fun _ _ e => e) (fun _ _ _ _ _ _ _ e => e) (fun _ _ e => e) (fun _ _ _ _ _ e => e) (fun _ _ e => e) (fun a0 _ k _ _ => k a0) (fun a0 _ _ k _ => k a0) (fun _ _ _ e => e) () (fun _ _ _ _ => ()) v k0 k1 e
def vLenS (v : AV) : O :=
  AV.rec (motive_1 := fun _ => O) (motive_2 := fun _ => Unit) (fun a0 => .fail) (fun a0 a1 => .fail) (fun a0 a1 => .fail) (fun a0 a1 => .fail) (.fail) (fun a0 a1 a2 a3 => .pv (rI a2)) (fun a0 a1 a2 a3 => .pv (rI a2)) (fun a0 a1 a2 a3 => .pv (rI 0)) (.pv (rI 0)) (fun a0 => .fail) (.fail) (fun a0 a1 a2 _ _ => .fail) (.fail) (fun a0 a1 _ => .fail) (.fail) (fun a0 _ => .fail) (fun a0 _ => .fail) (fun a0 => .fail) () (fun _ _ _ _ => ()) v
def vNil (v : AV) : O :=
  AV.rec (motive_1 := fun _ => O) (motive_2 := fun _ => Unit) (fun a0 => .fail) (fun a0 a1 => .fail) (fun a0 a1 => .fail) (fun a0 a1 => .pv (.ptr a0 a1)) (.fail) (fun a0 a1 a2 a3 => .fail) (fun a0 a1 a2 a3 => .fail) (fun a0 a1 a2 a3 => .fail) (.fail) (fun a0 => .fail) (.fail) (fun a0 a1 a2 _ _ => .pv (.func a0 a1 a2)) (.fail) (fun a0 a1 _ => .pv (.iface a0 a1)) (.fail) (fun a0 _ => .fail) (fun a0 _ => .fail) (fun a0 => .fail) () (fun _ _ _ _ => ()) v
def vCells (v : AV) : List AV := vAggL v (fun cs => cs) [v]
def vOne (v : AV) (e : Bool) : Bool := vAT v (fun _ => false) (fun _ => false) e
def forceN (n : Nat) (k : Nat → O) : O := Nat.rec (motive := fun _ => (Nat → O) → O) (fun k => k Nat.zero) (fun m _ k => k (Nat.succ m)) n k
theorem forceN_eq (n : Nat) (k : Nat → O) : forceN n k = k n := by cases n <;> rfl

/-! operands -/
inductive GB where
  | tmp (p : VP)
  | const (v : AV)
  | bad
def gbOf (x : Operand) : GB := Operand.rec (motive := fun _ => GB) (fun t => .tmp (pathV t)) (fun v => Option.rec (motive := fun _ => GB) .bad (fun v => .const v) (ofV 70 v)) (fun _ => .bad) (fun f => .const (.func f [] [])) x
def gGet (g : GB) (s : PT AV) : Option AV := GB.rec (motive := fun _ => PT AV → Option AV) (fun p s => getV p s) (fun v _ => some v) (fun _ => none) g s
def gK (g : GB) (s : PT AV) (k : AV → O) : O := GB.rec (motive := fun _ => PT AV → (AV → O) → O) (fun p s k => Option.rec (motive := fun _ => O) .fail k (getV p s)) (fun v _ k => k v) (fun _ _ => .fail) g s k
theorem gGet_eq (x : Operand) (s : PT AV) : gGet (gbOf x) s = evalOp s x := by
  cases x with
  | tmp t => exact getV_path t s
  | const v => show gGet (Option.rec (motive := fun _ => GB) .bad (fun v => .const v) (ofV 70 v)) s = ofV 70 v; cases ofV 70 v <;> rfl
  | global g => rfl
  | func f => rfl
theorem gK_eq (x : Operand) (s : PT AV) (k : AV → O) : gK (gbOf x) s k = op1 s x k := by
  cases x with
  | tmp t => show Option.rec (motive := fun _ => O) .fail k (getV (pathV t) s) = _; rw [getV_path]; rfl
  | const v => show gK (Option.rec (motive := fun _ => GB) .bad (fun v => .const v) (ofV 70 v)) s k = Option.rec (motive := fun _ => O) .fail (fun v => k v) (ofV 70 v); cases ofV 70 v <;> rfl
  | global g => rfl
  | func f => rfl
def glK (l : List Operand) : PT AV → (List AV → O) → O := List.rec (motive := fun _ => PT AV → (List AV → O) → O) (fun _ k => k []) (fun x _ ih s k => gK (gbOf x) s (fun v => ih s (fun l => k (v :: l)))) l
theorem glK_eq (s : PT AV) : ∀ (l : List Operand) (k : List AV → O), glK l s k = (match evalOps s l with | some l => k l | none => .fail)
  | [], k => rfl
  | x :: l, k => by
    show gK (gbOf x) s (fun v => glK l s (fun l => k (v :: l))) = _
    rw [gK_eq]
    unfold op1 evalOps
    cases evalOp s x with
    | none => rfl
    | some v =>
      show glK l s _ = _
      rw [glK_eq s l]
      cases evalOps s l <;> rfl

/-! cells -/
def nthK (l : List AV) (n : Nat) : O := Option.rec (motive := fun _ => O) .fail O.pv (nth l n)
theorem nthK_eq (l : List AV) (n : Nat) : nthK l n = oV (nth l n) := by unfold nthK oV; cases nth l n <;> rfl
def cellAtK (dz : List AV) (t : PT AV) (i : Nat) : O := Option.rec (motive := fun _ => O) (nthK dz (Nat.mod i (len dz))) O.pv (getV (pathV i) t)
theorem cellAtK_eq (dz : List AV) (t : PT AV) (i : Nat) : cellAtK dz t i = oV (cellAt dz t i) := by
  unfold cellAtK cellAt
  rw [getV_path, nthK_eq]
  cases t.get i <;> rfl
def aoCell (o : AO) (i : Nat) : O := AO.rec (motive := fun _ => Nat → O) (fun n dz t _ _ i => Bool.rec (motive := fun _ => O) .fail (cellAtK dz t i) (Nat.blt i n)) (fun _ _ _ => .fail) (fun _ _ _ _ => .fail) (fun _ _ _ _ _ => .fail) o i
def cellK (h : Hp) (b i : Nat) : O := Option.rec (motive := fun _ => O) .fail (fun o => aoCell o i) (getO (pathO b) h)
theorem cellK_eq (h : Hp) (b i : Nat) : cellK h b i = oV (hcell h b i) := by
  unfold cellK hcell
  rw [getO_path]
  cases h.get b with
  | none => rfl
  | some o =>
    cases o with
    | cells n dz t fz e =>
      show Bool.rec (motive := fun _ => O) .fail (cellAtK dz t i) (Nat.blt i n) = _
      rw [cellAtK_eq]
      simp only
      cases Nat.blt i n <;> rfl
    | _ => rfl
def readK (dz : List AV) (t : PT AV) (k : Nat) : Nat → (List AV → O) → O :=
  Nat.rec (motive := fun _ => Nat → (List AV → O) → O) (fun _ c => c []) (fun _ ih i c => O.rec (motive := fun _ => O) .fail (fun v => ih (Nat.succ i) (fun l => c (v :: l))) (fun _ _ _ => .fail) (fun _ => .fail) (fun _ _ => .fail) (fun _ => .fail) (cellAtK dz t i)) k
theorem readK_eq (dz : List AV) (t : PT AV) : ∀ (k i : Nat) (c : List AV → O), readK dz t k i c = (match readFrom dz t i k with | some l => c l | none => .fail)
  | 0, i, c => by simp only [readFrom]; rfl
  | k + 1, i, c => by
    show O.rec (motive := fun _ => O) .fail (fun v => readK dz t k (Nat.succ i) (fun l => c (v :: l))) (fun _ _ _ => .fail) (fun _ => .fail) (fun _ _ => .fail) (fun _ => .fail) (cellAtK dz t i) = _
    rw [cellAtK_eq]
    simp only [readFrom]
    cases cellAt dz t i with
    | none => rfl
    | some v =>
      show readK dz t k (Nat.succ i) _ = _
      rw [readK_eq dz t k]
      cases readFrom dz t (Nat.succ i) k <;> rfl
def aoCells (o : AO) (i k : Nat) : O := AO.rec (motive := fun _ => Nat → Nat → O) (fun n dz t _ _ i k => Bool.rec (motive := fun _ => O) .fail (readK dz t k i (fun l => .pv (.agg l))) (Nat.ble (Nat.add i k) n)) (fun _ _ _ _ => .fail) (fun _ _ _ _ _ => .fail) (fun _ _ _ _ _ _ => .fail) o i k
def cellsK (h : Hp) (b i k : Nat) : O := Option.rec (motive := fun _ => O) .fail (fun o => aoCells o i k) (getO (pathO b) h)
theorem cellsK_eq (h : Hp) (b i k : Nat) : cellsK h b i k = oV (match hcells h b i k with | some l => some (.agg l) | none => none) := by
  unfold cellsK hcells
  rw [getO_path]
  cases h.get b with
  | none => rfl
  | some o =>
    cases o with
    | cells n dz t fz e =>
      show Bool.rec (motive := fun _ => O) .fail (readK dz t k i (fun l => .pv (.agg l))) (Nat.ble (Nat.add i k) n) = _
      rw [readK_eq]
      simp only
      cases Nat.ble (Nat.add i k) n with
      | false => rfl
      | true => cases readFrom dz t i k <;> rfl
    | _ => rfl
def writeV (l : List AV) : PT AV → Nat → PT AV := List.rec (motive := fun _ => PT AV → Nat → PT AV) (fun t _ => t) (fun v _ ih t i => ih (putV (pathV i) (some v) t) (Nat.succ i)) l
theorem writeV_eq : ∀ (l : List AV) (t : PT AV) (i : Nat), writeV l t i = writeFrom t i l
  | [], t, i => rfl
  | v :: l, t, i => by
    show writeV l (putV (pathV i) (some v) t) (Nat.succ i) = writeFrom (t.set i v) (Nat.succ i) l
    rw [putV_path, writeV_eq l]; rfl
def newObjF (e : Nat) (l : List AV) : AO := .cells (len l) [] (writeV l .nil Nat.zero) (some 0) e
theorem newObjF_eq (e : Nat) (l : List AV) : newObjF e l = newObj e l := by unfold newObjF newObj; rw [writeV_eq]
theorem vCells_eq (v : AV) : vCells v = v.cells := by cases v <;> rfl
def allOneF (l : List AV) : Bool := List.rec (motive := fun _ => Bool) true (fun v _ ih => vOne v ih) l
theorem vOne_eq (v : AV) (e : Bool) : vOne v e = (match v with | .agg _ => false | .tuple _ => false | _ => e) := by cases v <;> rfl
theorem allOneF_eq : ∀ l : List AV, allOneF l = allOne l
  | [] => rfl
  | v :: l => by
    show vOne v (allOneF l) = _
    rw [vOne_eq, allOneF_eq l]
    cases v <;> rfl
def fzOkF (fz : Option Nat) (i : Nat) : Bool := Option.rec (motive := fun _ => Nat → Bool) (fun _ => true) (fun k i => Nat.ble k i) fz i
theorem fzOkF_eq (fz : Option Nat) (i : Nat) : fzOkF fz i = fzOk fz i := by cases fz <;> rfl
def storeC (o : AO) (h : Hp) (b i : Nat) (l : List AV) (n : Nat) : O :=
  AO.rec (motive := fun _ => Hp → Nat → Nat → List AV → Nat → O)
    (fun m dz t fz e h b i l n => Bool.rec (motive := fun _ => O) .fail (Bool.rec (motive := fun _ => O) .fail (Bool.rec (motive := fun _ => O) .fail (.skip (putO (pathO b) (some (.cells m dz (writeV l t i) fz e)) h)) (allOneF l)) (fzOkF fz i)) (Nat.ble (Nat.add i n) m))
    (fun _ _ _ _ _ _ _ => .fail) (fun _ _ _ _ _ _ _ _ => .fail) (fun _ _ _ _ _ _ _ _ _ => .fail) o h b i l n
def storeK (h : Hp) (b i : Nat) (l : List AV) (n : Nat) : O := Option.rec (motive := fun _ => O) .fail (fun o => storeC o h b i l n) (getO (pathO b) h)
theorem storeK_eq (h : Hp) (b i : Nat) (l : List AV) (n : Nat) (hn : len l = n) : storeK h b i l n = (match hstore h b i l with | some h => O.skip h | none => .fail) := by
  unfold storeK hstore
  rw [getO_path]
  cases h.get b with
  | none => rfl
  | some o =>
    cases o with
    | cells m dz t fz e =>
      show Bool.rec (motive := fun _ => O) .fail (Bool.rec (motive := fun _ => O) .fail (Bool.rec (motive := fun _ => O) .fail (.skip (putO (pathO b) (some (.cells m dz (writeV l t i) fz e)) h)) (allOneF l)) (fzOkF fz i)) (Nat.ble (Nat.add i n) m) = _
      rw [putO_path, writeV_eq, allOneF_eq, fzOkF_eq]
      simp only
      rw [hn]
      cases Nat.ble (Nat.add i n) m with
      | false => rfl
      | true => cases fzOk fz i with
        | false => rfl
        | true => cases allOne l <;> rfl
    | _ => rfl
theorem beq_true {a b : Nat} (h : Nat.beq a b = true) : a = b := Nat.eq_of_beq_eq_true h

/-! integers -/
def wrapK (k : IntKind) (n : Nat) : O := forceN n (fun n => Bool.rec (motive := fun _ => O) (.pv (.int k (k.wrap (.ofNat n)))) (.pv (.int k (.ofNat n))) (Nat.ble n (kmax k)))
theorem wrapK_eq (k : IntKind) (n : Nat) : wrapK k n = .pv (wrapN k n) := by
  unfold wrapK wrapN
  rw [forceN_eq]
  cases Nat.ble n (kmax k) <;> rfl
def bK (b : Bool) : O := Bool.rec (motive := fun _ => O) (.pv (.bool false)) (.pv (.bool true)) b
theorem bK_eq (b : Bool) : bK b = .pv (.bool b) := by cases b <;> rfl
def nK (b : Bool) : O := Bool.rec (motive := fun _ => O) (.pv (.bool true)) (.pv (.bool false)) b
theorem nK_eq (b : Bool) : nK b = .pv (.bool (not b)) := by cases b <;> rfl
def ieqF (a b : Int) : Bool := Int.rec (motive := fun _ => Int → Bool) (fun x b => Int.rec (motive := fun _ => Nat → Bool) (fun y x => Nat.beq x y) (fun _ _ => false) b x) (fun x b => Int.rec (motive := fun _ => Nat → Bool) (fun _ _ => false) (fun y x => Nat.beq x y) b x) a b
theorem ieqF_eq (a b : Int) : ieqF a b = ieq a b := by cases a <;> cases b <;> rfl
def iltF (a b : Int) : Bool := Int.rec (motive := fun _ => Int → Bool) (fun x b => Int.rec (motive := fun _ => Nat → Bool) (fun y x => Nat.blt x y) (fun _ _ => false) b x) (fun x b => Int.rec (motive := fun _ => Nat → Bool) (fun _ _ => true) (fun y x => Nat.blt y x) b x) a b
theorem iltF_eq (a b : Int) : iltF a b = ilt a b := by cases a <;> cases b <;> rfl
def addF (k : IntKind) (a c : Int) : O := Int.rec (motive := fun _ => IntKind → Int → O) (fun x k c => Int.rec (motive := fun _ => IntKind → Nat → O) (fun y k x => wrapK k (Nat.add x y)) (fun y k x => oV (intBin .add k (.ofNat x) (.negSucc y))) c k x) (fun x k c => oV (intBin .add k (.negSucc x) c)) a k c
theorem addF_eq (k : IntKind) (a c : Int) : addF k a c = oV (intBin .add k a c) := by
  cases a with
  | ofNat x => cases c with
    | ofNat y => show wrapK k (Nat.add x y) = _; rw [wrapK_eq]; rfl
    | negSucc y => rfl
  | negSucc x => rfl
def subN (k : IntKind) (x y : Nat) : O := Bool.rec (motive := fun _ => O) (.pv (wrapZ k (Int.ofNat x - Int.ofNat y))) (wrapK k (Nat.sub x y)) (Nat.ble y x)
def subF (k : IntKind) (a c : Int) : O := Int.rec (motive := fun _ => IntKind → Int → O) (fun x k c => Int.rec (motive := fun _ => IntKind → Nat → O) (fun y k x => subN k x y) (fun y k x => oV (intBin .sub k (.ofNat x) (.negSucc y))) c k x) (fun x k c => oV (intBin .sub k (.negSucc x) c)) a k c
theorem subF_eq (k : IntKind) (a c : Int) : subF k a c = oV (intBin .sub k a c) := by
  cases a with
  | ofNat x => cases c with
    | ofNat y =>
      show subN k x y = oV (match Nat.ble y x with | true => some (wrapN k (Nat.sub x y)) | false => some (wrapZ k (Int.ofNat x - Int.ofNat y)))
      unfold subN
      rw [wrapK_eq]
      cases Nat.ble y x <;> rfl
    | negSucc y => rfl
  | negSucc x => rfl
def mulF (k : IntKind) (a c : Int) : O := Int.rec (motive := fun _ => IntKind → Int → O) (fun x k c => Int.rec (motive := fun _ => IntKind → Nat → O) (fun y k x => wrapK k (Nat.mul x y)) (fun y k x => oV (intBin .mul k (.ofNat x) (.negSucc y))) c k x) (fun x k c => oV (intBin .mul k (.negSucc x) c)) a k c
theorem mulF_eq (k : IntKind) (a c : Int) : mulF k a c = oV (intBin .mul k a c) := by
  cases a with
  | ofNat x => cases c with
    | ofNat y => show wrapK k (Nat.mul x y) = _; rw [wrapK_eq]; rfl
    | negSucc y => rfl
  | negSucc x => rfl
inductive IB where
  | mk (f : IntKind → Int → Int → O)
  | sh (f : IntKind → Int → Int → O)
  | slow
def ibOf (b : BinOp) : IB := match b with
  | .add => .mk addF
  | .sub => .mk subF
  | .mul => .mk mulF
  | .eql => .mk (fun _ a c => bK (ieqF a c))
  | .neq => .mk (fun _ a c => nK (ieqF a c))
  | .lss => .mk (fun _ a c => bK (iltF a c))
  | .leq => .mk (fun _ a c => nK (iltF c a))
  | .gtr => .mk (fun _ a c => bK (iltF c a))
  | .geq => .mk (fun _ a c => nK (iltF a c))
  | .shl => .sh (fun k a c => oV (shiftBin true k a c))
  | .shr => .sh (fun k a c => oV (shiftBin false k a c))
  | b => .mk (fun k a c => oV (intBin b k a c))
def intK (ib : IB) (k k' : IntKind) (a c : Int) : O := IB.rec (motive := fun _ => IntKind → IntKind → Int → Int → O) (fun f k k' a c => Bool.rec (motive := fun _ => O) .fail (f k a c) (beqK k k')) (fun f k _ a c => f k a c) (fun _ _ _ _ => .fail) ib k k' a c
theorem intK_eq (E : Env) (h : Hp) (b : BinOp) (t : Nat) (k k' : IntKind) (a c : Int) : intK (ibOf b) k k' a c = binV E h b t (.int k a) (.int k' c) := by
  cases b <;> first
    | rfl
    | (show Bool.rec (motive := fun _ => O) .fail _ (beqK k k') = (match beqK k k' with | true => _ | false => _); rw [addF_eq]; cases beqK k k' <;> rfl)
    | (show Bool.rec (motive := fun _ => O) .fail _ (beqK k k') = (match beqK k k' with | true => _ | false => _); rw [subF_eq]; cases beqK k k' <;> rfl)
    | (show Bool.rec (motive := fun _ => O) .fail _ (beqK k k') = (match beqK k k' with | true => _ | false => _); rw [mulF_eq]; cases beqK k k' <;> rfl)
    | (show Bool.rec (motive := fun _ => O) .fail (bK (ieqF a c)) (beqK k k') = (match beqK k k' with | true => _ | false => _); rw [bK_eq, ieqF_eq]; cases beqK k k' <;> rfl)
    | (show Bool.rec (motive := fun _ => O) .fail (nK (ieqF a c)) (beqK k k') = (match beqK k k' with | true => _ | false => _); rw [nK_eq, ieqF_eq]; cases beqK k k' <;> rfl)
    | (show Bool.rec (motive := fun _ => O) .fail (bK (iltF a c)) (beqK k k') = (match beqK k k' with | true => _ | false => _); rw [bK_eq, iltF_eq]; cases beqK k k' <;> rfl)
    | (show Bool.rec (motive := fun _ => O) .fail (nK (iltF c a)) (beqK k k') = (match beqK k k' with | true => _ | false => _); rw [nK_eq, iltF_eq]; cases beqK k k' <;> rfl)
    | (show Bool.rec (motive := fun _ => O) .fail (bK (iltF c a)) (beqK k k') = (match beqK k k' with | true => _ | false => _); rw [bK_eq, iltF_eq]; cases beqK k k' <;> rfl)
    | (show Bool.rec (motive := fun _ => O) .fail (nK (iltF a c)) (beqK k k') = (match beqK k k' with | true => _ | false => _); rw [nK_eq, iltF_eq]; cases beqK k k' <;> rfl)
    | (show Bool.rec (motive := fun _ => O) .fail _ (beqK k k') = (match beqK k k' with | true => _ | false => _); cases beqK k k' <;> rfl)

def natK (v : AV) (k : Nat → O) : O := vInt v (fun _ z => Int.rec (motive := fun _ => O) (fun n => k n) (fun _ => .fail) z) .fail
theorem natK_eq (v : AV) (k : Nat → O) : natK v k = (match asNat v with | some n => k n | none => .fail) := by
  cases v with
  | int kk z => cases z <;> rfl
  | _ => rfl
/-! operations -/
inductive FB where
  | mk (f : PT AV → Hp → Nat → O)
def fbRun (f : FB) (s : PT AV) (h : Hp) (nx : Nat) : O := FB.rec (motive := fun _ => PT AV → Hp → Nat → O) (fun f => f) f s h nx
def newK (ob : AO) (h : Hp) (nx : Nat) : O := forceN nx (fun nx => .val (.ptr nx 0) (putO (pathO nx) (some ob) h) (Nat.succ nx))
theorem newK_eq (ob : AO) (h : Hp) (nx : Nat) : newK ob h nx = .val (.ptr nx 0) (h.set nx ob) (Nat.succ nx) := by unfold newK; rw [forceN_eq, putO_path]; rfl
def zObj (E : Env) (t : Nat) : Option AO := Option.rec (motive := fun _ => Option AO) none (fun z => some (newObjF t (vCells z))) (zero E t)
def fAlloc (E : Env) (t : Nat) (h : Hp) (nx : Nat) : O := Option.rec (motive := fun _ => O) .fail (fun ob => newK ob h nx) (zObj E t)
theorem fAlloc_eq (E : Env) (t : Nat) (h : Hp) (nx : Nat) : fAlloc E t h nx = Option.rec (motive := fun _ => O) .fail (fun z => .val (.ptr nx 0) (h.set nx (newObj t z.cells)) (Nat.succ nx)) (zero E t) := by
  unfold fAlloc zObj
  cases zero E t with
  | none => rfl
  | some z => show newK (newObjF t (vCells z)) h nx = _; rw [newK_eq, newObjF_eq, vCells_eq]
def fbLoad (E : Env) (t : Nat) (a : Operand) : FB :=
  Option.rec (motive := fun _ => FB) (.mk (fun s h _ => op1 s a fun a => oV (loadV E h t a)))
    (fun g => Bool.rec (motive := fun _ => FB) (.mk (fun s h _ => gK (gbOf a) s (fun v => vPtr v (fun b o => cellK h b o) .fail)))
      (Option.rec (motive := fun _ => FB) (.mk (fun s h _ => op1 s a fun a => oV (loadV E h t a))) (fun n => .mk (fun s h _ => gK (gbOf a) s (fun v => vPtr v (fun b o => cellsK h b o n) .fail))) (E.size t)) g) (E.isAgg t)
theorem fbLoad_eq (E : Env) (t : Nat) (a : Operand) (s : PT AV) (h : Hp) (nx : Nat) : fbRun (fbLoad E t a) s h nx = op1 s a fun a => oV (loadV E h t a) := by
  unfold fbLoad
  cases hg : E.isAgg t with
  | none => rfl
  | some g =>
    cases g with
    | false =>
      show gK (gbOf a) s (fun v => vPtr v (fun b o => cellK h b o) .fail) = _
      rw [gK_eq]
      refine congrArg (op1 s a) (funext fun v => ?_)
      cases v <;> first | rfl | skip
      rename_i b o
      show cellK h b o = _
      rw [cellK_eq]
      simp only [loadV, hg]
    | true =>
      simp only
      cases hn : E.size t with
      | none => rfl
      | some n =>
        show gK (gbOf a) s (fun v => vPtr v (fun b o => cellsK h b o n) .fail) = _
        rw [gK_eq]
        refine congrArg (op1 s a) (funext fun v => ?_)
        cases v <;> first | rfl | skip
        rename_i b o
        show cellsK h b o n = _
        rw [cellsK_eq]
        simp only [loadV, hg, hn]
        rfl
def fbStore (E : Env) (t : Nat) (a x : Operand) : FB :=
  Option.rec (motive := fun _ => FB) (.mk (fun s h _ => op1 s a fun a => op1 s x fun v => storeV E h t a v))
    (fun n => .mk (fun s h _ => gK (gbOf a) s (fun a => gK (gbOf x) s (fun v => vPtr a (fun b o => Bool.rec (motive := fun _ => O) .fail (storeK h b o (vCells v) n) (Nat.beq (len (vCells v)) n)) .fail)))) (E.size t)
theorem fbStore_eq (E : Env) (t : Nat) (a x : Operand) (s : PT AV) (h : Hp) (nx : Nat) : fbRun (fbStore E t a x) s h nx = op1 s a fun a => op1 s x fun v => storeV E h t a v := by
  unfold fbStore
  cases hn : E.size t with
  | none => rfl
  | some n =>
    show gK (gbOf a) s (fun a => gK (gbOf x) s (fun v => vPtr a (fun b o => Bool.rec (motive := fun _ => O) .fail (storeK h b o (vCells v) n) (Nat.beq (len (vCells v)) n)) .fail)) = _
    rw [gK_eq]
    refine congrArg (op1 s a) (funext fun a => ?_)
    rw [gK_eq]
    refine congrArg (op1 s x) (funext fun v => ?_)
    cases a <;> first | rfl | skip
    rename_i b o
    show Bool.rec (motive := fun _ => O) .fail (storeK h b o (vCells v) n) (Nat.beq (len (vCells v)) n) = _
    simp only [storeV, hn]
    rw [vCells_eq]
    cases hb : Nat.beq (len v.cells) n with
    | false => rfl
    | true => exact storeK_eq h b o _ n (beq_true hb)
theorem vNil_eq (v : AV) : vNil v = nilCheckV v := by cases v <;> rfl
def fbBin (E : Env) (b : BinOp) (t : Nat) (x y : Operand) : FB :=
  .mk (fun s h _ => gK (gbOf x) s (fun x => gK (gbOf y) s (fun y => vInt x (fun k a => vInt y (fun k' c => intK (ibOf b) k k' a c) .fail) (vStr x (fun l n => vStr y (fun l' n' => oV (strBin b l n l' n')) .fail) (binV E h b t x y)))))
theorem fbBin_eq (E : Env) (b : BinOp) (t : Nat) (x y : Operand) (s : PT AV) (h : Hp) (nx : Nat) : fbRun (fbBin E b t x y) s h nx = op1 s x fun x => op1 s y fun y => binV E h b t x y := by
  show gK (gbOf x) s (fun x => gK (gbOf y) s (fun y => vInt x (fun k a => vInt y (fun k' c => intK (ibOf b) k k' a c) .fail) (vStr x (fun l n => vStr y (fun l' n' => oV (strBin b l n l' n')) .fail) (binV E h b t x y)))) = _
  rw [gK_eq]
  refine congrArg (op1 s x) (funext fun x => ?_)
  rw [gK_eq]
  refine congrArg (op1 s y) (funext fun y => ?_)
  cases x <;> first | rfl | skip
  · cases y <;> first | rfl | skip
    exact intK_eq E h b t _ _ _ _
  · cases y <;> rfl
def toIntK (k : IntKind) (z : Int) : O := Int.rec (motive := fun _ => IntKind → O) (fun m k => wrapK k m) (fun m k => .pv (.int k (k.wrap (.negSucc m)))) z k
theorem toIntK_eq (k : IntKind) (z : Int) : toIntK k z = .pv (wrapZ k z) := by
  cases z with
  | ofNat m => exact wrapK_eq k m
  | negSucc m => rfl
def intTo (E : Env) (a b : Nat) : Option IntKind := match E.und a with
  | some _ => match E.und b with
    | some (.int k) => some k
    | _ => none
  | none => none
def fbConv (E : Env) (a b : Nat) (x : Operand) : FB :=
  Option.rec (motive := fun _ => FB) (.mk (fun s h nx => op1 s x fun x => convertV E h nx a b x)) (fun k => .mk (fun s _ _ => gK (gbOf x) s (fun v => vInt v (fun _ z => toIntK k z) .fail))) (intTo E a b)
theorem fbConv_eq (E : Env) (a b : Nat) (x : Operand) (s : PT AV) (h : Hp) (nx : Nat) : fbRun (fbConv E a b x) s h nx = op1 s x fun x => convertV E h nx a b x := by
  unfold fbConv
  cases hi : intTo E a b with
  | none => rfl
  | some k =>
    show gK (gbOf x) s (fun v => vInt v (fun _ z => toIntK k z) .fail) = _
    rw [gK_eq]
    refine congrArg (op1 s x) (funext fun v => ?_)
    unfold intTo at hi
    split at hi
    case h_2 => cases hi
    rename_i u hu
    split at hi
    case h_2 => cases hi
    rename_i k' hk
    cases hi
    unfold convertV
    rw [hu, hk]
    cases v <;> first | rfl | skip
    exact toIntK_eq _ _
def fbFieldAddr (E : Env) (t : Nat) (x : Operand) (i : Nat) : FB :=
  Option.rec (motive := fun _ => FB) (.mk (fun s _ _ => op1 s x fun x => fieldAddrV E t x i))
    (fun f => Bool.rec (motive := fun _ => FB) (.mk (fun s _ _ => op1 s x fun x => fieldAddrV E t x i))
      (.mk (fun s _ _ => gK (gbOf x) s (fun v => vPtr v (fun b o => forceN (Nat.add o f.offset) (fun o => .pv (.ptr b o))) .fail))) (nonzero E f.type)) (field E t i)
theorem fbFieldAddr_eq (E : Env) (t : Nat) (x : Operand) (i : Nat) (s : PT AV) (h : Hp) (nx : Nat) : fbRun (fbFieldAddr E t x i) s h nx = op1 s x fun x => fieldAddrV E t x i := by
  unfold fbFieldAddr
  cases hf : field E t i with
  | none => rfl
  | some f =>
    simp only
    cases hz : nonzero E f.type with
    | false => rfl
    | true =>
      show gK (gbOf x) s (fun v => vPtr v (fun b o => forceN (Nat.add o f.offset) (fun o => .pv (.ptr b o))) .fail) = _
      rw [gK_eq]
      refine congrArg (op1 s x) (funext fun v => ?_)
      cases v <;> first | rfl | skip
      rename_i b o
      show forceN (Nat.add o f.offset) (fun o => .pv (.ptr b o)) = _
      rw [forceN_eq]
      simp only [fieldAddrV, hf, hz]
def fbField (E : Env) (t : Nat) (x : Operand) (i : Nat) : FB :=
  Option.rec (motive := fun _ => FB) (.mk (fun s _ _ => op1 s x fun x => fieldV E t x i))
    (fun f => Option.rec (motive := fun _ => FB) (.mk (fun s _ _ => op1 s x fun x => fieldV E t x i))
      (fun g => Bool.rec (motive := fun _ => FB) (.mk (fun s _ _ => gK (gbOf x) s (fun v => vAgg v (fun cs => nthK cs f.offset) .fail))) (.mk (fun s _ _ => op1 s x fun x => fieldV E t x i)) g) (E.isAgg f.type)) (field E t i)
theorem fbField_eq (E : Env) (t : Nat) (x : Operand) (i : Nat) (s : PT AV) (h : Hp) (nx : Nat) : fbRun (fbField E t x i) s h nx = op1 s x fun x => fieldV E t x i := by
  unfold fbField
  cases hf : field E t i with
  | none => rfl
  | some f =>
    simp only
    cases hg : E.isAgg f.type with
    | none => rfl
    | some g =>
      cases g with
      | true => rfl
      | false =>
        show gK (gbOf x) s (fun v => vAgg v (fun cs => nthK cs f.offset) .fail) = _
        rw [gK_eq]
        refine congrArg (op1 s x) (funext fun v => ?_)
        cases v <;> first | rfl | skip
        rename_i cs
        show nthK cs f.offset = _
        rw [nthK_eq]
        simp only [fieldV, hf, part, hg]
def fbIndexAddr (E : Env) (t : Nat) (x y : Operand) : FB :=
  Option.rec (motive := fun _ => FB) (.mk (fun s _ _ => op1 s x fun x => op1 s y fun ix => oV (indexAddrV E t x ix)))
    (fun z => .mk (fun s _ _ => gK (gbOf x) s (fun x => gK (gbOf y) s (fun ix => natK ix (fun i => vIndexAddr x
      (fun b o n _ => Bool.rec (motive := fun _ => O) .fail (forceN (Nat.add o (Nat.mul i z)) (fun o => .pv (.ptr b o))) (Nat.blt i n))
      (fun b o n _ => Bool.rec (motive := fun _ => O) .fail (forceN (Nat.add o (Nat.mul i z)) (fun o => .pv (.ptr b o))) (Nat.blt i n))
      (oV (indexAddrV E t x ix))))))) (sliceElem E t)
theorem fbIndexAddr_eq (E : Env) (t : Nat) (x y : Operand) (s : PT AV) (h : Hp) (nx : Nat) : fbRun (fbIndexAddr E t x y) s h nx = op1 s x fun x => op1 s y fun ix => oV (indexAddrV E t x ix) := by
  unfold fbIndexAddr
  cases hz : sliceElem E t with
  | none => rfl
  | some z =>
    show gK (gbOf x) s (fun x => gK (gbOf y) s (fun ix => natK ix (fun i => vIndexAddr x
      (fun b o n _ => Bool.rec (motive := fun _ => O) .fail (forceN (Nat.add o (Nat.mul i z)) (fun o => .pv (.ptr b o))) (Nat.blt i n))
      (fun b o n _ => Bool.rec (motive := fun _ => O) .fail (forceN (Nat.add o (Nat.mul i z)) (fun o => .pv (.ptr b o))) (Nat.blt i n))
      (oV (indexAddrV E t x ix))))) = _
    rw [gK_eq]
    refine congrArg (op1 s x) (funext fun x => ?_)
    rw [gK_eq]
    refine congrArg (op1 s y) (funext fun ix => ?_)
    rw [natK_eq]
    cases hi : asNat ix with
    | none => simp only [indexAddrV, hi]; rfl
    | some i =>
      simp only
      cases x <;> first | rfl | skip
      all_goals
        rename_i b o n c
        show Bool.rec (motive := fun _ => O) .fail (forceN (Nat.add o (Nat.mul i z)) (fun o => .pv (.ptr b o))) (Nat.blt i n) = _
        rw [forceN_eq]
        simp only [indexAddrV, hi, hz]
        cases Nat.blt i n <;> rfl
def isStrT (E : Env) (t : Nat) : Bool := match E.und t with | some .string => true | _ => false
def byteK (n i : Nat) : O := forceN (byteAt n i) (fun c => .pv (.int .u8 (.ofNat c)))
def fbIndex (E : Env) (t : Nat) (x y : Operand) : FB :=
  Bool.rec (motive := fun _ => FB) (.mk (fun s _ _ => op1 s x fun x => op1 s y fun ix => oV (indexV E t x ix)))
    (.mk (fun s _ _ => gK (gbOf x) s (fun x => gK (gbOf y) s (fun ix => natK ix (fun i => vStr x (fun l n => Bool.rec (motive := fun _ => O) .fail (byteK n i) (Nat.blt i l)) (oV (indexV E t x ix))))))) (isStrT E t)
theorem fbIndex_eq (E : Env) (t : Nat) (x y : Operand) (s : PT AV) (h : Hp) (nx : Nat) : fbRun (fbIndex E t x y) s h nx = op1 s x fun x => op1 s y fun ix => oV (indexV E t x ix) := by
  unfold fbIndex
  cases hz : isStrT E t with
  | false => rfl
  | true =>
    show gK (gbOf x) s (fun x => gK (gbOf y) s (fun ix => natK ix (fun i => vStr x (fun l n => Bool.rec (motive := fun _ => O) .fail (byteK n i) (Nat.blt i l)) (oV (indexV E t x ix))))) = _
    rw [gK_eq]
    refine congrArg (op1 s x) (funext fun x => ?_)
    rw [gK_eq]
    refine congrArg (op1 s y) (funext fun ix => ?_)
    rw [natK_eq]
    cases hi : asNat ix with
    | none => simp only [indexV, hi]; rfl
    | some i =>
      simp only
      cases x <;> first | rfl | skip
      rename_i l n
      show Bool.rec (motive := fun _ => O) .fail (byteK n i) (Nat.blt i l) = _
      unfold byteK
      rw [forceN_eq]
      unfold isStrT at hz
      split at hz
      · rename_i hu
        simp only [indexV, hi, hu]
        cases Nat.blt i l <;> rfl
      · cases hz
def fbIface (E : Env) (t : Nat) (x : Operand) : FB :=
  Option.rec (motive := fun _ => FB) (.mk (fun s _ _ => op1 s x fun x => makeIfaceV E t x)) (fun d => match d with
    | .interface _ => .mk (fun s _ _ => op1 s x fun x => makeIfaceV E t x)
    | _ => .mk (fun s _ _ => gK (gbOf x) s (fun v => .pv (.iface t v)))) (E.und t)
theorem fbIface_eq (E : Env) (t : Nat) (x : Operand) (s : PT AV) (h : Hp) (nx : Nat) : fbRun (fbIface E t x) s h nx = op1 s x fun x => makeIfaceV E t x := by
  unfold fbIface
  cases hu : E.und t with
  | none => rfl
  | some d =>
    cases d <;> first | rfl | skip
    all_goals
      show gK (gbOf x) s (fun v => .pv (.iface t v)) = _
      rw [gK_eq]
      refine congrArg (op1 s x) (funext fun v => ?_)
      simp only [makeIfaceV, hu]
def isSliceT (E : Env) (t : Nat) : Bool := match E.und t with | some (.slice _) => true | _ => false
def fbLen (E : Env) (t : Nat) (x : Operand) (c : Call) : FB :=
  Bool.rec (motive := fun _ => FB)
    (Bool.rec (motive := fun _ => FB) (.mk (fun s h nx => callOp E s h nx c)) (.mk (fun s _ _ => gK (gbOf x) s (fun v => vLenS v))) (isSliceT E t))
    (.mk (fun s _ _ => gK (gbOf x) s (fun v => vStr v (fun l _ => .pv (rI l)) .fail))) (isStrT E t)
def fbCall (E : Env) (c : Call) : FB :=
  match c.callee with
  | .value f => match f with
    | .func f => .mk (fun s _ _ => glK c.args.toList s (fun l => .enter f l))
    | _ => .mk (fun s h nx => callOp E s h nx c)
  | .builtin b => match b with
    | .len => match c.args.toList with
      | [x] => match c.argTypes.toList with
        | t :: _ => fbLen E t x c
        | [] => .mk (fun s h nx => callOp E s h nx c)
      | _ => .mk (fun s h nx => callOp E s h nx c)
    | _ => .mk (fun s h nx => callOp E s h nx c)
  | .invoke _ _ => .mk (fun s h nx => callOp E s h nx c)
theorem vLenS_eq (E : Env) (h : Hp) (t : Nat) (v : AV) (ht : isSliceT E t = true) : vLenS v = oV (lenV E h t v) := by
  unfold isSliceT at ht
  split at ht
  case h_2 => cases ht
  rename_i e hu
  unfold lenV
  rw [hu]
  cases v <;> rfl
theorem vLenStr_eq (E : Env) (h : Hp) (t : Nat) (v : AV) (ht : isStrT E t = true) : vStr v (fun l _ => .pv (rI l)) .fail = oV (lenV E h t v) := by
  unfold isStrT at ht
  split at ht
  case h_2 => cases ht
  rename_i hu
  unfold lenV
  rw [hu]
  cases v <;> rfl
theorem fbLen_eq (E : Env) (t : Nat) (ts : List Nat) (x : Operand) (c : Call) (hc : c.callee = .builtin .len) (hx : c.args.toList = [x]) (ht : c.argTypes.toList = t :: ts) (s : PT AV) (h : Hp) (nx : Nat) : fbRun (fbLen E t x c) s h nx = callOp E s h nx c := by
  have key : ∀ k : AV → O, (∀ v, k v = oV (lenV E h t v)) → op1 s x k = callOp E s h nx c := fun k hk => by
    unfold callOp
    rw [hx]
    simp only [evalOps]
    unfold op1
    cases evalOp s x with
    | none => rfl
    | some v =>
      simp only [hc, ht, builtinV]
      exact hk v
  unfold fbLen
  cases h1 : isStrT E t with
  | true =>
    show gK (gbOf x) s (fun v => vStr v (fun l _ => .pv (rI l)) .fail) = _
    rw [gK_eq]
    exact key _ fun v => vLenStr_eq E h t v h1
  | false =>
    simp only
    cases h2 : isSliceT E t with
    | true =>
      show gK (gbOf x) s (fun v => vLenS v) = _
      rw [gK_eq]
      exact key _ fun v => vLenS_eq E h t v h2
    | false => rfl
theorem fbCall_eq (E : Env) (c : Call) (s : PT AV) (h : Hp) (nx : Nat) : fbRun (fbCall E c) s h nx = callOp E s h nx c := by
  unfold fbCall
  split
  · rename_i f hc
    split
    · rename_i f
      show glK c.args.toList s (fun l => .enter f l) = _
      rw [glK_eq]
      unfold callOp
      cases evalOps s c.args.toList with
      | none => rfl
      | some l =>
        simp only [hc]
        show O.enter f l = O.enter f ([] ++ (l ++ []))
        rw [List.append_nil, List.nil_append]
    · rfl
  · rename_i b hc
    split
    · split
      · rename_i x hx
        split
        · rename_i t ts ht
          exact fbLen_eq E t ts x c hc hx ht s h nx
        · rfl
      · rfl
    · rfl
  · rfl
def fbOf (E : Env) (o : Op) : FB :=
  Op.rec (motive := fun _ => FB)
    (fun x => .mk (fun s _ _ => gK (gbOf x) s .pv))                                       -- move
    (fun x => .mk (fun s _ _ => gK (gbOf x) s .pv))                                       -- assign
    (fun c a b => .mk (fun s _ _ => gK (gbOf c) s (fun c => vBool c (fun t => Bool.rec (motive := fun _ => O) (gK (gbOf b) s .pv) (gK (gbOf a) s .pv) t) .fail)))                                     -- pick
    (fun t => .mk (fun _ h nx => fAlloc E t h nx))  -- alloc
    (fun t x => .mk (fun s h nx => gK (gbOf x) s (fun v => newK (newObjF t (vCells v)) h nx)))   -- box
    (fun t ps => .mk (fun s h nx => op E s h nx (.build t ps)))
    (fun t n ps => .mk (fun s h nx => op E s h nx (.buildSlice t n ps)))
    (fun t m k x => .mk (fun s h nx => op E s h nx (.insert t m k x)))
    (fun t a => fbLoad E t a)
    (fun t a x => fbStore E t a x)
    (fun _ => .mk (fun _ _ _ => .fail)) (fun _ => .mk (fun _ _ _ => .fail))
    (fun x => .mk (fun s _ _ => gK (gbOf x) s (fun v => vNil v)))
    (fun b t x y _ => fbBin E b t x y)
    (fun u t x => .mk (fun s h nx => op E s h nx (.unOp u t x)))
    (fun a b x => fbConv E a b x)
    (fun _ _ => .mk (fun _ _ _ => .fail))
    (fun t x => fbIface E t x)
    (fun fn first cap => .mk (fun s h nx => op E s h nx (.makeFunc fn first cap)))
    (fun t r => .mk (fun s h nx => op E s h nx (.makeMap t r)))
    (fun _ _ => .mk (fun _ _ _ => .fail))
    (fun t l c => .mk (fun s h nx => op E s h nx (.makeSlice t l c)))
    (fun t x lo hi mx => .mk (fun s h nx => op E s h nx (.slice t x lo hi mx)))
    (fun t x i => fbFieldAddr E t x i)
    (fun t x i => fbField E t x i)
    (fun t x ix => fbIndexAddr E t x ix)
    (fun t x ix => fbIndex E t x ix)
    (fun t m k ok => .mk (fun s h nx => op E s h nx (.lookup t m k ok)))
    (fun t m k x => .mk (fun s h nx => op E s h nx (.mapUpdate t m k x)))
    (fun t m k => .mk (fun s h nx => op E s h nx (.mapEntry t m k)))
    (fun t m st x => .mk (fun s h nx => op E s h nx (.entryStore t m st x)))
    (fun t x => .mk (fun s h nx => op E s h nx (.range t x)))
    (fun it b => .mk (fun s h nx => op E s h nx (.next it b)))
    (fun it => .mk (fun s h nx => op E s h nx (.entry it)))
    (fun x t a ok => .mk (fun s h nx => op E s h nx (.typeAssert x t a ok)))
    (fun t i => .mk (fun s _ _ => gK (gbOf t) s (fun v => vTuple v (fun vs => nthK vs i) .fail)))
    (fun c => fbCall E c)
    (fun _ => .mk (fun _ _ _ => .fail))
    (fun c => .mk (fun s h nx => op E s h nx (.defer c)))
    (fun _ => .mk (fun _ _ _ => .fail)) (fun _ _ => .mk (fun _ _ _ => .fail)) (fun _ _ _ => .mk (fun _ _ _ => .fail)) (fun _ _ => .mk (fun _ _ _ => .fail))
    o
theorem fbOf_eq (E : Env) (o : Op) (s : PT AV) (h : Hp) (nx : Nat) : fbRun (fbOf E o) s h nx = op E s h nx o := by
  cases o <;> first | rfl | skip
  case move x => show gK (gbOf x) s .pv = oV (evalOp s x); rw [gK_eq]; unfold op1; cases evalOp s x <;> rfl
  case assign x => show gK (gbOf x) s .pv = oV (evalOp s x); rw [gK_eq]; unfold op1; cases evalOp s x <;> rfl
  case pick c a b =>
    show gK (gbOf c) s (fun c => vBool c (fun t => Bool.rec (motive := fun _ => O) (gK (gbOf b) s .pv) (gK (gbOf a) s .pv) t) .fail) = pickV s c a b
    rw [gK_eq, gK_eq, gK_eq]
    unfold pickV
    refine congrArg (op1 s c) (funext fun v => ?_)
    have e : ∀ x, op1 s x .pv = oV (evalOp s x) := fun x => by unfold op1; cases evalOp s x <;> rfl
    rw [e, e]
    cases v <;> first | rfl | skip
    rename_i t
    cases t <;> rfl
  case alloc t => exact fAlloc_eq E t h nx
  case box t x =>
    show gK (gbOf x) s (fun v => newK (newObjF t (vCells v)) h nx) = op1 s x fun v => .val (.ptr nx 0) (h.set nx (newObj t v.cells)) (Nat.succ nx)
    rw [gK_eq]
    refine congrArg (op1 s x) (funext fun v => ?_)
    rw [newK_eq, newObjF_eq, vCells_eq]
  case load t a => exact fbLoad_eq E t a s h nx
  case store t a x => exact fbStore_eq E t a x s h nx
  case nilCheck x =>
    show gK (gbOf x) s (fun v => vNil v) = op1 s x fun v => nilCheckV v
    rw [gK_eq]
    exact congrArg (op1 s x) (funext fun v => vNil_eq v)
  case binOp b t x y z => exact fbBin_eq E b t x y s h nx
  case convert a b x => exact fbConv_eq E a b x s h nx
  case makeInterface t x => exact fbIface_eq E t x s h nx
  case fieldAddr t x i => exact fbFieldAddr_eq E t x i s h nx
  case field t x i => exact fbField_eq E t x i s h nx
  case indexAddr t x y => exact fbIndexAddr_eq E t x y s h nx
  case index t x y => exact fbIndex_eq E t x y s h nx
  case extract t i =>
    show gK (gbOf t) s (fun v => vTuple v (fun vs => nthK vs i) .fail) = op1 s t fun t => extractV t i
    rw [gK_eq]
    refine congrArg (op1 s t) (funext fun v => ?_)
    cases v <;> first | rfl | exact nthK_eq _ _
  case call c => exact fbCall_eq E c s h nx

/-! code -/
inductive DP where
  | none
  | some (p : VP)
def dpOf (d : Option Nat) : DP := Option.rec (motive := fun _ => DP) .none (fun t => .some (pathV t)) d
def putD (d : DP) (v : AV) (tm : PT AV) : PT AV := DP.rec (motive := fun _ => AV → PT AV → PT AV) (fun _ tm => tm) (fun p v tm => putV p (Option.some v) tm) d v tm
theorem putD_eq (d : Option Nat) (v : AV) (tm : PT AV) : putD (dpOf d) v tm = putT tm d v := by
  cases d with
  | none => rfl
  | some t => show putV (pathV t) (some v) tm = _; rw [putV_path]; rfl
abbrev Kt := PT AV → List ADef → Hp → Nat → R
def rK (r : R) (pos : String) (d : DP) (k : Kt) (tm : PT AV) (df : List ADef) : R :=
  R.rec (motive := fun _ => String → DP → Kt → PT AV → List ADef → R) (fun w pos _ _ _ _ => .fail (pos ++ " < " ++ w)) (fun _ _ _ _ _ _ _ _ _ _ => .fail "?") (fun v h nx _ d k tm df => k (putD d v tm) df h nx) r pos d k tm df
def doF (r : O) (pos : String) (d : DP) (k : Kt) (rec : Rec) (tm : PT AV) (df : List ADef) (h : Hp) (nx : Nat) : R :=
  O.rec (motive := fun _ => String → DP → Kt → Rec → PT AV → List ADef → Hp → Nat → R)
    (fun pos _ _ _ _ _ _ _ => .fail pos)
    (fun v _ d k _ tm df h nx => k (putD d v tm) df h nx)
    (fun v h nx _ d k _ tm df _ _ => k (putD d v tm) df h nx)
    (fun h _ d k _ tm df _ nx => k (putD d .undef tm) df h nx)
    (fun f args pos d k rec tm df h nx => rK (rec (.call f args) .nil [] h nx) pos d k tm df)
    (fun x _ d k _ tm df h nx => k (putD d .undef tm) (x :: df) h nx) r pos d k rec tm df h nx
theorem doF_eq (r : O) (pos : String) (d : Option Nat) (k : Kt) (rec : Rec) (tm : PT AV) (df : List ADef) (h : Hp) (nx : Nat) : doF r pos (dpOf d) k rec tm df h nx = doOp rec pos d k tm df h nx r := by
  cases r with
  | fail => rfl
  | pv v => show k (putD (dpOf d) v tm) df h nx = _; rw [putD_eq]; rfl
  | val v h nx => show k (putD (dpOf d) v tm) df h nx = _; rw [putD_eq]; rfl
  | skip h => show k (putD (dpOf d) .undef tm) df h nx = _; rw [putD_eq]; rfl
  | enter f args =>
    show rK (rec (.call f args) .nil [] h nx) pos (dpOf d) k tm df = R.rec (motive := fun _ => R) (fun w => .fail (pos ++ " < " ++ w)) (fun _ _ _ _ _ => .fail "?") (fun v h nx => k (putT tm d v) df h nx) (rec (.call f args) .nil [] h nx)
    cases rec (.call f args) .nil [] h nx with
    | fail w => rfl
    | code x tm df h nx => rfl
    | val v h nx => show k (putD (dpOf d) v tm) df h nx = _; rw [putD_eq]
  | defer x => show k (putD (dpOf d) .undef tm) (x :: df) h nx = _; rw [putD_eq]; rfl
inductive CO where
  | nil
  | op (f : FB) (d : DP) (pos : String) (rest : CO)
  | guarded (f : FB) (d : DP) (pos : String) (g : Nat × Bool) (rest : CO)
def coOf (E : Env) (l : List Oper) : CO := List.rec (motive := fun _ => CO) .nil (fun o _ ih => Oper.rec (motive := fun _ => CO) (fun dst op _ pos _ g => Option.rec (motive := fun _ => CO) (.op (fbOf E op) (dpOf dst) pos ih) (fun g => .guarded (fbOf E op) (dpOf dst) pos g ih) g) o) l
def wantK (ops : List Oper) (g : Nat × Bool) (tm : PT AV) (a b c : Unit → R) : R := Option.rec (motive := fun _ => Unit → R) c (fun t => Bool.rec (motive := fun _ => Unit → R) b a t) (wantedG ops tm g) ()
def runC (ops : List Oper) (c : CO) : Rec → Kt :=
  CO.rec (motive := fun _ => Rec → Kt)
    (fun _ tm df h nx => .code .normal tm df h nx)
    (fun f d pos _ ih rec tm df h nx => doF (fbRun f tm h nx) pos d (ih rec) rec tm df h nx)
    (fun f d pos g _ ih rec tm df h nx => wantK ops g tm (fun _ => doF (fbRun f tm h nx) pos d (ih rec) rec tm df h nx) (fun _ => ih rec (putD d .undef tm) df h nx) (fun _ => .fail pos)) c
theorem runC_eq (E : Env) (rec : Rec) (ops : List Oper) : ∀ (l : List Oper) (tm : PT AV) (df : List ADef) (h : Hp) (nx : Nat), runC ops (coOf E l) rec tm df h nx = runOps E rec ops l tm df h nx
  | [], tm, df, h, nx => rfl
  | o :: l, tm, df, h, nx => by
    have ih : runC ops (coOf E l) rec = runOps E rec ops l := funext fun tm => funext fun df => funext fun h => funext fun nx => runC_eq E rec ops l tm df h nx
    obtain ⟨dst, op', t, pos, after, g⟩ := o
    cases g with
    | none =>
      show doF (fbRun (fbOf E op') tm h nx) pos (dpOf dst) (runC ops (coOf E l) rec) rec tm df h nx = doOp rec pos dst (runOps E rec ops l) tm df h nx (op E tm h nx op')
      rw [doF_eq, ih, fbOf_eq]
    | some g =>
      show wantK ops g tm (fun _ => doF (fbRun (fbOf E op') tm h nx) pos (dpOf dst) (runC ops (coOf E l) rec) rec tm df h nx) (fun _ => runC ops (coOf E l) rec (putD (dpOf dst) .undef tm) df h nx) (fun _ => .fail pos)
        = (match wantedG ops tm g with
          | some b => match b with
            | true => doOp rec pos dst (runOps E rec ops l) tm df h nx (op E tm h nx op')
            | false => runOps E rec ops l (putT tm dst .undef) df h nx
          | none => .fail pos)
      rw [ih, putD_eq]
      unfold wantK
      cases wantedG ops tm g with
      | none => rfl
      | some b =>
        cases b with
        | true => show doF (fbRun (fbOf E op') tm h nx) pos (dpOf dst) (runOps E rec ops l) rec tm df h nx = _; rw [doF_eq, fbOf_eq]
        | false => rfl
inductive CB where
  | mk (f : Rec → Kt)
def seqF (x : X) (rec : Rec) (b : Code) (tm : PT AV) (df : List ADef) (h : Hp) (nx : Nat) : R :=
  X.rec (motive := fun _ => Rec → Code → Kt) (fun rec b tm df h nx => rec (.code b) tm df h nx) (fun i _ _ tm df h nx => .code (.exit i) tm df h nx) (fun l _ _ tm df h nx => .code (.goto l) tm df h nx) (fun _ _ tm df h nx => .code .ret tm df h nx) x rec b tm df h nx
def onSeq (r : R) (rec : Rec) (b : Code) : R :=
  R.rec (motive := fun _ => Rec → Code → R) (fun w _ _ => .fail w) (fun x tm df h nx rec b => seqF x rec b tm df h nx) (fun _ _ _ _ _ => .fail "?") r rec b
theorem onSeq_eq (r : R) (rec : Rec) (b : Code) : onSeq r rec b = onCode (seqK rec b) r := by
  cases r with
  | code x tm df h nx => cases x <;> rfl
  | _ => rfl
def blockF (x : X) (id : Nat) (tm : PT AV) (df : List ADef) (h : Hp) (nx : Nat) : R :=
  X.rec (motive := fun _ => Nat → Kt) (fun _ tm df h nx => .code .normal tm df h nx) (fun i id tm df h nx => Bool.rec (motive := fun _ => R) (.code (.exit i) tm df h nx) (.code .normal tm df h nx) (Nat.beq i id)) (fun l _ tm df h nx => .code (.goto l) tm df h nx) (fun _ tm df h nx => .code .ret tm df h nx) x id tm df h nx
def onBlock (r : R) (id : Nat) : R :=
  R.rec (motive := fun _ => Nat → R) (fun w _ => .fail w) (fun x tm df h nx id => blockF x id tm df h nx) (fun _ _ _ _ => .fail "?") r id
theorem onBlock_eq (r : R) (id : Nat) : onBlock r id = onCode (blockK id) r := by
  cases r with
  | code x tm df h nx => cases x <;> rfl
  | _ => rfl
def condF (c : Option AV) (rec : Rec) (a b : Code) (tm : PT AV) (df : List ADef) (h : Hp) (nx : Nat) : R :=
  Option.rec (motive := fun _ => R) (.fail "cond") (fun v => vBoolR v (fun t => Bool.rec (motive := fun _ => R) (rec (.code b) tm df h nx) (rec (.code a) tm df h nx) t) (.fail "cond")) c
theorem condF_eq (c : Option AV) (rec : Rec) (a b : Code) (tm : PT AV) (df : List ADef) (h : Hp) (nx : Nat) : condF c rec a b tm df h nx = condK rec a b tm df h nx c := by
  cases c with
  | none => rfl
  | some v =>
    cases v <;> first | rfl | skip
    rename_i t
    cases t <;> rfl
def cbOf (E : Env) (c : Code) : CB :=
  Code.rec (motive := fun _ => CB)
    (.mk (fun _ tm df h nx => .code .normal tm df h nx))
    (fun _ ops draw => Bool.rec (motive := fun _ => CB) (.mk (fun rec tm df h nx => runC ops.toList (coOf E ops.toList) rec tm df h nx)) (.mk (fun rec tm df h nx => region E rec ops true tm df h nx)) draw)
    (fun a b _ _ => .mk (fun rec tm df h nx => onSeq (rec (.code a) tm df h nx) rec b))
    (fun c a b _ _ => .mk (fun rec tm df h nx => condF (gGet (gbOf c) tm) rec a b tm df h nx))
    (fun id b _ => .mk (fun rec tm df h nx => onBlock (rec (.code b) tm df h nx) id))
    (fun b _ => .mk (fun rec tm df h nx => onSeq (rec (.code b) tm df h nx) rec (.loop b)))
    (fun _ _ _ _ _ _ => .mk (fun _ _ _ _ _ => .fail "rangeFunc"))
    (fun id => .mk (fun _ tm df h nx => .code (.exit id) tm df h nx))
    (fun b _ => .mk (fun rec tm df h nx => rec (.scope b b) tm df h nx))
    (fun _ => .mk (fun _ tm df h nx => .code .normal tm df h nx))
    (fun l => .mk (fun _ tm df h nx => .code (.goto l) tm df h nx))
    (.mk (fun _ tm df h nx => .code .ret tm df h nx))
    (fun w => .mk (fun _ _ _ _ _ => .fail w)) c
def cbRun (c : CB) (rec : Rec) (tm : PT AV) (df : List ADef) (h : Hp) (nx : Nat) : R := CB.rec (motive := fun _ => Rec → Kt) (fun f => f) c rec tm df h nx
theorem cbOf_eq (E : Env) (rec : Rec) (c : Code) (tm : PT AV) (df : List ADef) (h : Hp) (nx : Nat) : cbRun (cbOf E c) rec tm df h nx = stepCode E rec c tm df h nx := by
  cases c <;> first | rfl | skip
  case region id ops draw =>
    cases draw with
    | false => exact runC_eq E rec ops.toList ops.toList tm df h nx
    | true => rfl
  case seq a b => exact onSeq_eq ..
  case cond c a b => show condF (gGet (gbOf c) tm) rec a b tm df h nx = _; rw [condF_eq, gGet_eq]; rfl
  case block id b => exact onBlock_eq ..
  case loop b => exact onSeq_eq ..
/-! calls -/
inductive RS where
  | none
  | one (p : VP)
  | slow
def rsOf (l : List ResultVar) : RS := match l with
  | [] => .none
  | [.tmp t] => .one (pathV t)
  | _ => .slow
inductive FnB where
  | memo (es : List ME) (f : Nat)
  | ext (k : Nat)
  | code (body : Code) (rs : RS) (fn : Func)
  | no (w : String)
def fnOf0 (E : Env) (f : Nat) : FnB := match E.ext.get f with
  | some k => .ext k
  | none => match E.funcs.get f with
    | some fn => match fn.body with
      | some body => .code body (rsOf fn.results.toList) fn
      | none => .no ("no body " ++ fn.name)
    | none => .no "no such function"
def fnOf (E : Env) (f : Nat) : FnB := Option.rec (motive := fun _ => FnB) (fnOf0 E f) (fun es => .memo es f) (E.memo.get f)
def ofListF (l : List AV) : PT AV := writeV l .nil Nat.zero
theorem ofListF_eq (l : List AV) : ofListF l = PT.ofList l := by
  have key : ∀ (l : List AV) (t : PT AV) (i : Nat), writeFrom t i l = PT.ofListFrom i l t := by
    intro l
    induction l with
    | nil => intro t i; rfl
    | cons v l ih => intro t i; exact ih (t.set i v) (Nat.succ i)
  unfold ofListF PT.ofList
  rw [writeV_eq]
  exact key l .nil 0
def resF (rs : RS) (fn : Func) (E : Env) (tm : PT AV) (h : Hp) (nx : Nat) (slow : R) : R :=
  RS.rec (motive := fun _ => Func → PT AV → Hp → Nat → R → R) (fun _ _ h nx _ => .val (.tuple []) h nx) (fun p fn tm h nx _ => Option.rec (motive := fun _ => R) (.fail ("results " ++ fn.name)) (fun v => .val v h nx) (getV p tm)) (fun _ _ _ _ r => r) rs fn tm h nx slow
def finF (x : X) (E : Env) (rec : Rec) (rs : RS) (fn : Func) (tm : PT AV) (df : List ADef) (h : Hp) (nx : Nat) : R :=
  List.rec (motive := fun _ => R) (X.rec (motive := fun _ => R) (resF rs fn E tm h nx (finish E rec fn x tm [] h nx)) (fun _ => .fail "exit") (fun _ => .fail "goto") (resF rs fn E tm h nx (finish E rec fn x tm [] h nx)) x) (fun _ _ _ => finish E rec fn x tm df h nx) df
theorem resF_eq (E : Env) (rec : Rec) (fn : Func) (x : X) (hx : x = .normal ∨ x = .ret) (tm : PT AV) (h : Hp) (nx : Nat) : resF (rsOf fn.results.toList) fn E tm h nx (finish E rec fn x tm [] h nx) = finish E rec fn x tm [] h nx := by
  have hf : finish E rec fn x tm [] h nx = (match resultsOf E h tm fn.results.toList with | some l => .val (one l) h nx | none => .fail ("results " ++ fn.name)) := by
    rcases hx with rfl | rfl <;> rfl
  unfold rsOf
  split
  · rename_i hr
    rw [hf, hr]; rfl
  · rename_i t hr
    rw [hf, hr]
    show Option.rec (motive := fun _ => R) (.fail ("results " ++ fn.name)) (fun v => .val v h nx) (getV (pathV t) tm) = _
    rw [getV_path]
    simp only [resultsOf, resultOf]
    cases tm.get t <;> rfl
  · rfl
theorem finF_eq (E : Env) (rec : Rec) (fn : Func) (x : X) (tm : PT AV) (df : List ADef) (h : Hp) (nx : Nat) : finF x E rec (rsOf fn.results.toList) fn tm df h nx = finish E rec fn x tm df h nx := by
  cases df with
  | cons d df => rfl
  | nil =>
    cases x with
    | normal => exact resF_eq E rec fn .normal (.inl rfl) tm h nx
    | ret => exact resF_eq E rec fn .ret (.inr rfl) tm h nx
    | exit i => rfl
    | goto l => rfl
def onFin (r : R) (E : Env) (rec : Rec) (rs : RS) (fn : Func) : R :=
  R.rec (motive := fun _ => Env → Rec → RS → Func → R) (fun w _ _ _ _ => .fail w) (fun x tm df h nx E rec rs fn => finF x E rec rs fn tm df h nx) (fun _ _ _ _ _ _ _ => .fail "?") r E rec rs fn
theorem onFin_eq (E : Env) (rec : Rec) (fn : Func) (r : R) : onFin r E rec (rsOf fn.results.toList) fn = onCode (finish E rec fn) r := by
  cases r with
  | code x tm df h nx => exact finF_eq E rec fn x tm df h nx
  | _ => rfl
def callF0 (f : FnB) (E : Env) (rec : Rec) (args : List AV) (h : Hp) (nx : Nat) : R :=
  FnB.rec (motive := fun _ => Env → Rec → List AV → Hp → Nat → R) (fun _ _ _ _ _ _ _ => .fail "?") (fun k E _ args h nx => extern E k args h nx) (fun body rs fn E rec args h nx => onFin (rec (.code body) (ofListF args) [] h nx) E rec rs fn) (fun w _ _ _ _ _ => .fail w) f E rec args h nx
def memoR (e : ME) (h : Hp) (nx : Nat) : R := .val (shV nx e.v) (addBs nx h e.bs) (Nat.add nx e.m)
def callM (es : List ME) (f : Nat) (E : Env) (rec : Rec) (args : List AV) (h : Hp) (nx : Nat) : R :=
  Option.rec (motive := fun _ => R) (callF0 (fnOf0 E f) E rec args h nx) (fun e => memoR e h nx) (findM (keyVs args) args es)
def callF (f : FnB) (E : Env) (rec : Rec) (args : List AV) (h : Hp) (nx : Nat) : R :=
  FnB.rec (motive := fun _ => Env → Rec → List AV → Hp → Nat → R) (fun es f E rec args h nx => callM es f E rec args h nx) (fun k E _ args h nx => extern E k args h nx) (fun body rs fn E rec args h nx => onFin (rec (.code body) (ofListF args) [] h nx) E rec rs fn) (fun w _ _ _ _ _ => .fail w) f E rec args h nx
theorem callF0_eq (E : Env) (rec : Rec) (f : Nat) (args : List AV) (h : Hp) (nx : Nat) : callF0 (fnOf0 E f) E rec args h nx = (match E.ext.get f with
    | some k => extern E k args h nx
    | none => match E.funcs.get f with
      | some fn => match fn.body with
        | some body => onCode (finish E rec fn) (rec (.code body) (PT.ofList args) [] h nx)
        | none => .fail ("no body " ++ fn.name)
      | none => .fail "no such function") := by
  unfold fnOf0
  cases E.ext.get f with
  | some k => rfl
  | none =>
    simp only
    cases E.funcs.get f with
    | none => rfl
    | some fn =>
      simp only
      cases fn.body with
      | none => rfl
      | some body =>
        show onFin (rec (.code body) (ofListF args) [] h nx) E rec (rsOf fn.results.toList) fn = _
        rw [onFin_eq, ofListF_eq]
theorem callF_eq (E : Env) (rec : Rec) (f : Nat) (args : List AV) (h : Hp) (nx : Nat) : callF (fnOf E f) E rec args h nx = stepCall E rec f args h nx := by
  unfold stepCall memoGet fnOf
  cases E.memo.get f with
  | none =>
    have e : callF (fnOf0 E f) E rec args h nx = callF0 (fnOf0 E f) E rec args h nx := by
      unfold fnOf0
      cases E.ext.get f with
      | some k => rfl
      | none =>
        simp only
        cases E.funcs.get f with
        | none => rfl
        | some fn => simp only; cases fn.body <;> rfl
    show callF (fnOf0 E f) E rec args h nx = _
    rw [e]
    exact callF0_eq E rec f args h nx
  | some es =>
    show callM es f E rec args h nx = _
    unfold callM
    simp only
    cases findM (keyVs args) args es with
    | some e => rfl
    | none => exact callF0_eq E rec f args h nx
def stepF (E : Env) (rec : Rec) (t : Task) (tm : PT AV) (df : List ADef) (h : Hp) (nx : Nat) : R :=
  Task.rec (motive := fun _ => Env → Rec → PT AV → List ADef → Hp → Nat → R)
    (fun c E rec tm df h nx => cbRun (cbOf E c) rec tm df h nx)
    (fun cur b E rec tm df h nx => onCode (scopeK rec b) (rec (.code cur) tm df h nx))
    (fun f args E rec _ _ h nx => callF (fnOf E f) E rec args h nx) t E rec tm df h nx
theorem stepF_eq (E : Env) (rec : Rec) (t : Task) (tm : PT AV) (df : List ADef) (h : Hp) (nx : Nat) : stepF E rec t tm df h nx = step E rec t tm df h nx := by
  cases t with
  | code c => exact cbOf_eq E rec c tm df h nx
  | scope cur b => rfl
  | call f args => exact callF_eq E rec f args h nx
def evF (E : Env) (n : Nat) : Rec := Nat.rec (motive := fun _ => Rec) (fun _ _ _ _ _ => .fail "fuel") (fun _ ih t tm df h nx => stepF E ih t tm df h nx) n
theorem evF_eq (E : Env) : ∀ n, evF E n = ev E n
  | 0 => rfl
  | n + 1 => by
    show (fun t tm df h nx => stepF E (evF E n) t tm df h nx) = step E (ev E n)
    rw [evF_eq E n]
    funext t tm df h nx
    exact stepF_eq E (ev E n) t tm df h nx
end Go.Ev
end
