import Derived.Test.YtcfmdhkopcijoabGreatDoorEvA
import Derived.Orders
import Derived.Laws.CopyOwn
set_option linter.all false
/-! THE EVALUATOR's SOUNDNESS, 4: the operations. -/
namespace Go.Ev
open Go

def OpOk (P : Program) (ρ : Rho) (h : Hp) (nx : Nat) (w : World) (o : Oper) (a : Act) : O → Prop
  | .fail => True
  | .pv v => Sc nx v ∧ (execOp a.eval o).run P w = .ok (.value (conc ρ v)) w
  | .val v h' nx' => ∃ ρ' w', Step ρ h nx w ρ' h' nx' w' ∧ Sc nx' v ∧ (execOp a.eval o).run P w = .ok (.value (conc ρ' v)) w'
  | .skip h' => ∃ w', Step ρ h nx w ρ h' nx w' ∧ (execOp a.eval o).run P w = .ok .skip w'
  | .enter f args => Scs nx args ∧ (execOp a.eval o).run P w = (callFunc f (concs ρ args).toArray).run P w
  | .defer d => Scs nx d.args ∧ ∃ cap args, args ++ cap = (concs ρ d.args).toArray ∧ (execOp a.eval o).run P w = .ok (.defer { target := .fn (.func d.f) cap, args }) w

section
variable {E : Env} {P : Program} {ρ : Rho} {h : Hp} {nx : Nat} {w : World} {o : Oper} {a : Act} {tm : PT AV}

theorem OpOk.op1 (hT : TR ρ nx tm a.tmps) (x : Operand) {k : AV → O} (hk : ∀ v, Sc nx v → a.eval x = conc ρ v → OpOk P ρ h nx w o a (k v)) : OpOk P ρ h nx w o a (op1 tm x k) := by
  unfold Ev.op1
  cases hv : evalOp tm x with
  | none => trivial
  | some v =>
    obtain ⟨h1, h2⟩ := evalOp_ok hT hv
    exact hk v h1 h2
theorem OpOk.oV {x : Option AV} (hk : ∀ v, x = some v → OpOk P ρ h nx w o a (.pv v)) : OpOk P ρ h nx w o a (oV x) := by
  cases x with
  | none => trivial
  | some v => exact hk v rfl
/-- A value that the operation yields without touching the world. -/
theorem OpOk.pv' {v : AV} {s : Sem Value} (hv : Sc nx v) (he : execOp a.eval o = (do pure (.value (← s)))) (hs : s.run P w = .ok (conc ρ v) w) : OpOk P ρ h nx w o a (.pv v) :=
  ⟨hv, by rw [he]; simp [hs]⟩
theorem OpOk.val' {v : AV} {h' : Hp} {nx' : Nat} {s : Sem Value} {ρ' : Rho} {w' : World} (st : Step ρ h nx w ρ' h' nx' w') (hv : Sc nx' v) (he : execOp a.eval o = (do pure (.value (← s))))
    (hs : s.run P w = .ok (conc ρ' v) w') : OpOk P ρ h nx w o a (.val v h' nx') :=
  ⟨ρ', w', st, hv, by rw [he]; simp [hs]⟩
theorem OpOk.skip' {h' : Hp} {s : Sem Unit} {w' : World} (st : Step ρ h nx w ρ h' nx w') (he : execOp a.eval o = (do s; pure .skip))
    (hs : s.run P w = .ok () w') : OpOk P ρ h nx w o a (.skip h') :=
  ⟨w', st, by rw [he]; simp [hs]⟩

theorem op_move (hT : TR ρ nx tm a.tmps) {x : Operand} (ho : o.op = .move x) : OpOk P ρ h nx w o a (oV (evalOp tm x)) :=
  .oV fun v hv => by
    obtain ⟨h1, h2⟩ := evalOp_ok hT hv
    exact ⟨h1, by simp [execOp, ho, h2]⟩
theorem op_assign (hT : TR ρ nx tm a.tmps) {x : Operand} (ho : o.op = .assign x) : OpOk P ρ h nx w o a (oV (evalOp tm x)) :=
  .oV fun v hv => by
    obtain ⟨h1, h2⟩ := evalOp_ok hT hv
    exact ⟨h1, by simp [execOp, ho, h2]⟩
theorem op_pick (hT : TR ρ nx tm a.tmps) {c x y : Operand} (ho : o.op = .pick c x y) : OpOk P ρ h nx w o a (pickV tm c x y) := by
  refine .op1 hT c fun v _ hv => ?_
  cases v with
  | bool b =>
    cases b
    · refine .oV fun u hu => ?_
      obtain ⟨h1, h2⟩ := evalOp_ok hT hu
      exact ⟨h1, by simp [execOp, ho, hv, conc, asBool, h2]⟩
    · refine .oV fun u hu => ?_
      obtain ⟨h1, h2⟩ := evalOp_ok hT hu
      exact ⟨h1, by simp [execOp, ho, hv, conc, asBool, h2]⟩
  | _ => trivial
theorem conc_ptr_new (ρ : Rho) (nx n s : Nat) : conc (ρ.upd nx n 0 s) (.ptr nx 0) = .pointer (some ⟨n, 0, none⟩) := by
  simp [conc, Rho.at]
theorem op_alloc (hE : EnvOk E P) (H : HR ρ h nx w) {t : Nat} (ho : o.op = .alloc t) {z : AV} (hz : zero E t = some z) :
    OpOk P ρ h nx w o a (.val (.ptr nx 0) (h.set nx (newObj t z.cells)) (Nat.succ nx)) := by
  obtain ⟨hrun, hsc⟩ := hE.run_zero ρ nx hz w
  have hcs : Scs nx z.cells := by cases z <;> first | exact hsc | exact ⟨hsc, trivial⟩
  have st := newObj_ok H t z.cells hcs #[]
  simp only [Array.append_empty] at st
  refine .val' st (Nat.lt_succ_self _) (s := Instr.alloc t true (.tuple #[])) (by simp [execOp, ho]) ?_
  rw [conc_ptr_new]
  simp [Instr.alloc, hrun, newVar, newRow, cells_conc]
theorem op_box (hT : TR ρ nx tm a.tmps) (H : HR ρ h nx w) {t : Nat} {x : Operand} (ho : o.op = .box t x) :
    OpOk P ρ h nx w o a (op1 tm x fun v => .val (.ptr nx 0) (h.set nx (newObj t v.cells)) (Nat.succ nx)) := by
  refine .op1 hT x fun v hsc hv => ?_
  have hcs : Scs nx v.cells := by cases v <;> first | exact hsc | exact ⟨hsc, trivial⟩
  have st := newObj_ok H t v.cells hcs #[]
  simp only [Array.append_empty] at st
  refine .val' st (Nat.lt_succ_self _) (s := Instr.box t (conc ρ v)) (by simp [execOp, ho, hv]) ?_
  rw [conc_ptr_new]
  simp [Instr.box, newVar, newRow, cells_conc]
theorem loadVar_ok (hE : EnvOk E P) (H : HR ρ h nx w) {t b i : Nat} {v : AV} (hv : loadV E h t (.ptr b i) = some v) :
    (loadVar t (ρ.at b i)).run P w = .ok (conc ρ v) w ∧ Sc nx v := by
  simp only [loadV] at hv
  split at hv
  · rename_i g hg
    split at hv
    · split at hv
      · rename_i n hn
        split at hv
        · rename_i l hl
          cases hv
          have h1 := run_cells_of (P := P) H hl
          refine ⟨?_, (cells_of H hl).2.1⟩
          simp [loadVar, hE.run_isAgg hg, hE.run_size hn, h1, conc]
        · cases hv
      · cases hv
    · obtain ⟨h1, h2⟩ := cell_of H hv
      refine ⟨?_, h2⟩
      simp [loadVar, hE.run_isAgg hg, h1]
  · cases hv
theorem op_load (hE : EnvOk E P) (hT : TR ρ nx tm a.tmps) (H : HR ρ h nx w) {t : Nat} {x : Operand} (ho : o.op = .load t x) :
    OpOk P ρ h nx w o a (op1 tm x fun x => oV (loadV E h t x)) := by
  refine .op1 hT x fun v _ hv => .oV fun u hu => ?_
  cases v with
  | ptr b i =>
    obtain ⟨h1, h2⟩ := loadVar_ok hE H hu
    exact .pv' h2 (s := Instr.loadAt t (conc ρ (.ptr b i))) (by simp [execOp, ho, hv]) (by simp [Instr.loadAt, Instr.sureAddr, conc, h1])
  | _ => cases hu
theorem cells_Scs {v : AV} (hv : Sc nx v) : Scs nx v.cells := by cases v <;> first | exact hv | exact ⟨hv, trivial⟩
theorem op_store (hE : EnvOk E P) (hT : TR ρ nx tm a.tmps) (H : HR ρ h nx w) {t : Nat} {x y : Operand} (ho : o.op = .store t x y) :
    OpOk P ρ h nx w o a (op1 tm x fun x => op1 tm y fun v => storeV E h t x v) := by
  refine .op1 hT x fun p _ hp => .op1 hT y fun v hsc hv => ?_
  by_cases hpt : ∃ b i, p = .ptr b i
  case neg => cases p <;> first | trivial | exact absurd ⟨_, _, rfl⟩ hpt
  obtain ⟨b, i, rfl⟩ := hpt
  simp only [storeV]
  split
  · rename_i n hn
    split
    · rename_i hlen
      have hlen : v.cells.length = n := by have := Nat.eq_of_beq_eq_true hlen; simpa using this
      split
      · rename_i h' hs
        obtain ⟨w', h1, h2⟩ := store_ok (P := P) H hs (cells_Scs hsc)
        refine .skip' h2 (s := Instr.storeAt t (conc ρ (.ptr b i)) (conc ρ v)) (by simp [execOp, ho, hp, hv]) ?_
        simp [Instr.storeAt, Instr.sureAddr, conc, storeVar, cells_conc, hE.run_size hn, hlen, h1]
      · trivial
    · trivial
  · trivial
theorem op_nilCheck (hT : TR ρ nx tm a.tmps) {x : Operand} (ho : o.op = .nilCheck x) : OpOk P ρ h nx w o a (op1 tm x fun v => nilCheckV v) := by
  refine .op1 hT x fun v hsc hv => ?_
  cases v <;> first
    | trivial
    | exact ⟨hsc, by simp [execOp, ho, hv, conc]⟩
theorem wrap_nat (k : IntKind) (n : Nat) (h : n ≤ kmax k) : k.wrap (n : Int) = n := by
  unfold IntKind.wrap
  cases k <;> (simp [IntKind.bits, IntKind.signed, kmax] at h ⊢) <;> omega
theorem wrapN_ok (k : IntKind) (n : Nat) : Sc nx (wrapN k n) ∧ conc ρ (wrapN k n) = .int k (k.wrap n) := by
  unfold wrapN
  cases h : Nat.ble n (kmax k)
  · exact ⟨trivial, rfl⟩
  · exact ⟨trivial, by simp only [conc]; rw [wrap_nat k n (Nat.le_of_ble_eq_true h)]; rfl⟩
theorem wrapZ_ok (k : IntKind) (n : Int) : Sc nx (wrapZ k n) ∧ conc ρ (wrapZ k n) = .int k (k.wrap n) := by
  cases n with
  | ofNat m => exact wrapN_ok k m
  | negSucc m => exact ⟨trivial, rfl⟩
theorem op_unOp (hT : TR ρ nx tm a.tmps) {u : UnOp} {t : Nat} {x : Operand} (ho : o.op = .unOp u t x) : OpOk P ρ h nx w o a (op1 tm x fun x => unV u x) := by
  refine .op1 hT x fun v hsc hv => ?_
  cases u with
  | neg =>
    cases v with
    | int k n =>
      obtain ⟨h1, h2⟩ := wrapZ_ok (nx := nx) (ρ := ρ) k (0 - n)
      exact ⟨h1, by rw [h2]; simp [execOp, ho, hv, conc, Op.unary, Op.intArith]⟩
    | _ => trivial
  | not =>
    cases v with
    | bool b => exact ⟨trivial, by simp [execOp, ho, hv, conc, Op.unary]⟩
    | _ => trivial
  | _ => trivial
theorem op_makeInterface (hE : EnvOk E P) (hT : TR ρ nx tm a.tmps) {t : Nat} {x : Operand} (ho : o.op = .makeInterface t x) :
    OpOk P ρ h nx w o a (op1 tm x fun x => makeIfaceV E t x) := by
  refine .op1 hT x fun v hsc hv => ?_
  unfold makeIfaceV
  split
  · rename_i d hd
    have hu := hE.run_und hd
    cases d <;> first
      | trivial
      | exact ⟨hsc, by simp [execOp, ho, hv, conc, Instr.makeInterface, hu]⟩
  · trivial

theorem op_makeFunc (hT : TR ρ nx tm a.tmps) {fn : Fn} {x y : Array Operand} (ho : o.op = .makeFunc fn x y) : OpOk P ρ h nx w o a (makeFuncV tm fn x.toList y.toList) := by
  cases fn with
  | func f =>
    simp only [makeFuncV]
    split
    · rename_i u hu
      split
      · rename_i v hv
        obtain ⟨h1, h2⟩ := evalOps_ok hT hu
        obtain ⟨h3, h4⟩ := evalOps_ok hT hv
        refine ⟨⟨h1, h3⟩, ?_⟩
        have e1 : x.map a.eval = (concs ρ u).toArray := by apply Array.ext'; simp [h2]
        have e2 : y.map a.eval = (concs ρ v).toArray := by apply Array.ext'; simp [h4]
        simp [execOp, ho, Instr.makeFunc, conc, e1, e2]
      · trivial
    · trivial
  | _ => trivial
theorem op_makeMap (hE : EnvOk E P) (hT : TR ρ nx tm a.tmps) (H : HR ρ h nx w) {t : Nat} {r : Option Operand} (ho : o.op = .makeMap t r) :
    OpOk P ρ h nx w o a (makeMapV E tm h nx t r) := by
  unfold makeMapV
  have st : Step ρ h nx w (ρ.upd nx w.heap.size 0 0) (h.set nx (.map [] 0)) (nx + 1) { w with heap := w.heap.push (.map #[] 0) } :=
    H.new _ _ _ _ (show Ses _ _ ∧ _ from ⟨(fun e he => by cases he), by simp⟩)
  have key : ∀ s : Sem Unit, s.run P w = .ok () w → (execOp a.eval o).run P w = ((do s; pure (.value (.map (some (← Go.newObj (.map #[] 0)))))) : Sem Next).run P w →
      OpOk P ρ h nx w o a (.val (.map nx) (h.set nx (.map [] 0)) (Nat.succ nx)) := fun s hs he =>
    ⟨_, _, st, Nat.lt_succ_self _, by rw [he]; simp [hs, conc]⟩
  cases r with
  | none => exact key (pure ()) rfl (by simp [execOp, ho, Instr.makeMap])
  | some x =>
    simp only
    cases hx : evalOp tm x with
    | none => trivial
    | some v =>
      obtain ⟨_, hv⟩ := evalOp_ok hT hx
      cases v with
      | int k n =>
        simp only
        split
        · rename_i k' e' hd
          have hu := hE.run_und hd
          exact key (pure ()) rfl (by simp [execOp, ho, Instr.makeMap, hv, conc, hu, asInt, asIntOf])
        · trivial
      | _ => trivial
theorem field_ok {E : Env} {P : Program} (hE : EnvOk E P) {t i : Nat} {f : Field} (hf : field E t i = some f) : ∃ fs, P.underlying t = some (.struct fs) ∧ fs[i]? = some f := by
  unfold field at hf
  split at hf
  · rename_i fs hu
    exact ⟨fs, hE.und hu, by simpa using hf⟩
  · cases hf
theorem nonzero_ok {E : Env} {t : Nat} (h : nonzero E t = true) : ∃ n, E.size t = some (n + 1) := by
  unfold nonzero at h
  split at h
  · rename_i n hn
    cases n with
    | zero => cases h
    | succ n => exact ⟨n, hn⟩
  · cases h
theorem op_fieldAddr (hE : EnvOk E P) (hT : TR ρ nx tm a.tmps) {t i : Nat} {x : Operand} (ho : o.op = .fieldAddr t x i) :
    OpOk P ρ h nx w o a (op1 tm x fun x => fieldAddrV E t x i) := by
  refine .op1 hT x fun v hsc hv => ?_
  cases v with
  | ptr b off =>
    simp only [fieldAddrV]
    split
    · rename_i f hf
      split
      · rename_i hnz
        obtain ⟨fs, h1, h2⟩ := field_ok hE hf
        obtain ⟨n, hn⟩ := nonzero_ok hnz
        refine ⟨hsc, ?_⟩
        have h3 : (underlying t).run P w = .ok (.struct fs) w := by simp [underlying, h1]
        simp [execOp, ho, hv, conc, Instr.fieldAt, h3, h2, Instr.sureAddr, fieldPlace, hE.run_size hn, at_add]
      · trivial
    · trivial
  | _ => trivial
theorem concs_take_drop (ρ : Rho) (l : List AV) (i n : Nat) : (concs ρ l).toArray.extract i (i + n) = (concs ρ ((l.drop i).take n)).toArray := by
  simp [concs_eq, List.map_take, List.map_drop]
theorem Scs_part {nx : Nat} {l : List AV} (h : Scs nx l) (i n : Nat) : Scs nx ((l.drop i).take n) :=
  Scs_iff.2 fun x hx => Scs_iff.1 h x (List.mem_of_mem_drop (List.mem_of_mem_take hx))
theorem part_ok (hE : EnvOk E P) (ρ : Rho) {nx t off : Nat} {cs : List AV} {v : AV} (hs : Scs nx cs) (hv : part E t cs off = some v) :
    Sc nx v ∧ ∀ w, (Go.part t (concs ρ cs).toArray off).run P w = .ok (conc ρ v) w := by
  unfold Ev.part at hv
  split at hv
  · rename_i hg
    split at hv
    · rename_i n hn
      cases hv
      exact ⟨Scs_part hs _ _, fun w => by simp only [Go.part, Sem.run_bind, hE.run_isAgg hg, Result.andThen_ok, if_true, hE.run_size hn, Sem.run_pure, concs_take_drop, conc]⟩
    · cases hv
  · rename_i hg
    have hv : cs[off]? = some v := by simpa using hv
    refine ⟨Scs_iff.1 hs v (List.mem_of_getElem? hv), fun w => ?_⟩
    have : (concs ρ cs).toArray[off]? = some (conc ρ v) := by simp [concs_get, hv]
    simp [Go.part, hE.run_isAgg hg, this]
  · cases hv
theorem op_field (hE : EnvOk E P) (hT : TR ρ nx tm a.tmps) {t i : Nat} {x : Operand} (ho : o.op = .field t x i) :
    OpOk P ρ h nx w o a (op1 tm x fun x => fieldV E t x i) := by
  refine .op1 hT x fun v hsc hv => ?_
  cases v with
  | agg cs =>
    simp only [fieldV]
    split
    · rename_i f hf
      refine .oV fun u hu => ?_
      obtain ⟨fs, h1, h2⟩ := field_ok hE hf
      obtain ⟨h3, h4⟩ := part_ok hE ρ hsc hu
      have h5 : (underlying t).run P w = .ok (.struct fs) w := by simp [underlying, h1]
      exact ⟨h3, by simp [execOp, ho, hv, conc, Instr.field, h5, h2, asAgg, h4]⟩
    · trivial
  | _ => trivial
theorem asNat_ok {v : AV} {n : Nat} (h : asNat v = some n) : ∃ k, v = .int k (.ofNat n) := by
  cases v with
  | int k z => cases z with
    | ofNat m => cases h; exact ⟨k, rfl⟩
    | negSucc m => cases h
  | _ => cases h
theorem sliceElem_ok (hE : EnvOk E P) {t z : Nat} (h : sliceElem E t = some z) : ∃ e, P.underlying t = some (.slice e) ∧ E.size e = some z := by
  unfold sliceElem at h
  split at h
  · rename_i e hu; exact ⟨e, hE.und hu, h⟩
  · cases h
theorem op_indexAddr (hE : EnvOk E P) (hT : TR ρ nx tm a.tmps) {t : Nat} {x y : Operand} (ho : o.op = .indexAddr t x y) :
    OpOk P ρ h nx w o a (op1 tm x fun x => op1 tm y fun ix => oV (indexAddrV E t x ix)) := by
  refine .op1 hT x fun v hsc hv => .op1 hT y fun ix _ hix => .oV fun u hu => ?_
  unfold indexAddrV at hu
  split at hu
  · rename_i i hi
    obtain ⟨k, rfl⟩ := asNat_ok hi
    cases v with
    | slice b off n c =>
      simp only at hu
      split at hu
      · rename_i hlt
        have hlt : i < n := Nat.le_of_ble_eq_true hlt
        split at hu
        · rename_i z hz
          cases hu
          obtain ⟨e, h1, h2⟩ := sliceElem_ok hE hz
          have h3 : (underlying t).run P w = .ok (.slice e) w := by simp [underlying, h1]
          refine ⟨hsc, ?_⟩
          simp [execOp, ho, hv, hix, conc, Instr.indexAt, asIntOf, h3, hlt, hE.run_size h2, at_add]
        · cases hu
      · cases hu
    | sliceU b off n c =>
      simp only at hu
      split at hu
      · rename_i hlt
        have hlt : i < n := Nat.le_of_ble_eq_true hlt
        split at hu
        · rename_i z hz
          cases hu
          obtain ⟨e, h1, h2⟩ := sliceElem_ok hE hz
          have h3 : (underlying t).run P w = .ok (.slice e) w := by simp [underlying, h1]
          refine ⟨hsc, ?_⟩
          simp [execOp, ho, hv, hix, conc, Instr.indexAt, asIntOf, h3, hlt, hE.run_size h2, at_add]
        · cases hu
      · cases hu
    | ptr b off =>
      simp only at hu
      split at hu
      · rename_i n e hd
        split at hu
        · rename_i hlt
          have hlt : i < n := Nat.le_of_ble_eq_true hlt
          split at hu
          · rename_i z hz
            cases hu
            refine ⟨hsc, ?_⟩
            simp [execOp, ho, hv, hix, conc, Instr.indexAt, asIntOf, hE.run_und hd, hlt, Instr.sureAddr, hE.run_size hz, at_add]
          · cases hu
        · cases hu
      · cases hu
    | _ => cases hu
  · cases hu
theorem op_index (hE : EnvOk E P) (hT : TR ρ nx tm a.tmps) {t : Nat} {x y : Operand} (ho : o.op = .index t x y) :
    OpOk P ρ h nx w o a (op1 tm x fun x => op1 tm y fun ix => oV (indexV E t x ix)) := by
  refine .op1 hT x fun v hsc hv => .op1 hT y fun ix _ hix => .oV fun u hu => ?_
  unfold indexV at hu
  split at hu
  · rename_i i hi
    obtain ⟨k, rfl⟩ := asNat_ok hi
    cases v with
    | str l n =>
      simp only at hu
      split at hu
      · rename_i hlt
        have hlt : i < l := Nat.le_of_ble_eq_true hlt
        split at hu
        · rename_i hd
          cases hu
          have h1 := hE.run_und hd w
          have hb : byteAt n i < 256 := Nat.mod_lt _ (by decide)
          refine ⟨trivial, ?_⟩
          simp [execOp, ho, hv, hix, conc, Instr.index, asIntOf, h1, toBA_get hlt]
          omega
        · cases hu
      · cases hu
    | agg cs =>
      simp only at hu
      split at hu
      · rename_i n e hd
        split at hu
        · rename_i hlt
          have hlt : i < n := Nat.le_of_ble_eq_true hlt
          split at hu
          · rename_i z hz
            obtain ⟨h3, h4⟩ := part_ok hE ρ hsc hu
            refine ⟨h3, ?_⟩
            have h5 := h4 w
            have e0 : Nat.mul i z = i * z := rfl
            rw [e0] at h5
            simp [execOp, ho, hv, hix, conc, Instr.index, asIntOf, hE.run_und hd, hlt, hE.run_size hz, h5]
          · cases hu
        · cases hu
      · cases hu
    | _ => cases hu
  · cases hu
theorem bound_ok (hT : TR ρ nx tm a.tmps) {d n : Nat} {x : Option Operand} (hb : bound tm d x = some n) :
    (x = none ∧ n = d) ∨ ∃ y k, x = some y ∧ a.eval y = .int k (n : Int) := by
  cases x with
  | none => cases hb; exact .inl ⟨rfl, rfl⟩
  | some y =>
    simp only [bound] at hb
    split at hb
    · rename_i v hv
      obtain ⟨k, rfl⟩ := asNat_ok hb
      obtain ⟨_, h2⟩ := evalOp_ok hT hv
      exact .inr ⟨y, k, rfl, h2⟩
    · cases hb
/-- The bounds of a slice expression, each within. -/
theorem sliceBounds_ok (hT : TR ρ nx tm a.tmps) (isSlice : Bool) {l c p q m : Nat} {lo hi mx : Option Operand} (hlo : bound tm 0 lo = some p) (hhi : bound tm l hi = some q)
    (hmx : bound tm c mx = some m) (h1 : p ≤ q) (h2 : q ≤ m) (h3 : m ≤ c) (h4 : mx.isSome → hi.isSome) :
    (Instr.sliceBounds isSlice l c (lo.map a.eval) (hi.map a.eval) (mx.map a.eval)).run P w = .ok (p, q, m) w := by
  have sb : ∀ (k : IntKind) (n y : Nat) (code : BoundsCode), n ≤ y → (Instr.sliceBound (.int k (n : Int)) y code).run P w = .ok n w := fun k n y code hle => by
    simp [Instr.sliceBound, asIntOf, show (n : Int) ≤ (y : Int) from by omega]
  rcases bound_ok hT hmx with ⟨rfl, rfl⟩ | ⟨ym, km, rfl, em⟩
  · rcases bound_ok hT hhi with ⟨rfl, rfl⟩ | ⟨yh, kh, rfl, eh⟩
    · rcases bound_ok hT hlo with ⟨rfl, rfl⟩ | ⟨yl, kl, rfl, el⟩
      · simp [Instr.sliceBounds]
      · simp [Instr.sliceBounds, el, sb kl p _ _ h1]
    · rcases bound_ok hT hlo with ⟨rfl, rfl⟩ | ⟨yl, kl, rfl, el⟩
      · simp [Instr.sliceBounds, eh, sb kh q _ _ h2]
      · simp [Instr.sliceBounds, eh, sb kh q _ _ h2, el, sb kl p _ _ h1]
  · rcases bound_ok hT hhi with ⟨rfl, rfl⟩ | ⟨yh, kh, rfl, eh⟩
    · exact absurd (h4 rfl) (by simp)
    · rcases bound_ok hT hlo with ⟨rfl, rfl⟩ | ⟨yl, kl, rfl, el⟩
      · simp [Instr.sliceBounds, eh, em, sb km m _ _ h3, sb kh q _ _ h2]
      · simp [Instr.sliceBounds, eh, em, sb km m _ _ h3, sb kh q _ _ h2, el, sb kl p _ _ h1]
theorem cap_le {ρ : Rho} {h : Hp} {nx : Nat} {w : World} (H : HR ρ h nx w) {b o l z : Nat} (hz : 0 < z) (hc : hasCells h b (o + l * z) = true) : l ≤ ρ.cap b o z := by
  unfold hasCells at hc
  split at hc
  · rename_i ob hob
    split at hc
    · rename_i m dz t fz e
      have hm : o + l * z ≤ m := Nat.le_of_ble_eq_true hc
      obtain ⟨_, c, fr, h1, h2, h3, _⟩ := H.obj _ _ hob
      unfold Rho.cap
      rw [Nat.le_div_iff_mul_le hz]
      omega
    · cases hc
  · cases hc
theorem cap_shift (ρ : Rho) (b o p z : Nat) (hz : 0 < z) : ρ.cap b (o + p * z) z = ρ.cap b o z - p := by
  unfold Rho.cap
  rw [show ρ.β b + (o + p * z) = ρ.β b + o + z * p from by rw [Nat.mul_comm p z]; omega, ← Nat.sub_sub]
  by_cases hle : z * p ≤ ρ.sz b - (ρ.β b + o)
  · rw [Nat.sub_mul_div_of_le _ _ _ hle]
  · have h1 : (ρ.sz b - (ρ.β b + o)) / z < p := by rw [Nat.div_lt_iff_lt_mul hz, Nat.mul_comm]; omega
    rw [Nat.sub_eq_zero_of_le (by omega), Nat.zero_div]; omega

theorem mxOk_ok {hi mx : Option Operand} (hm : mxOk hi mx = true) : mx.isSome → hi.isSome := by
  cases mx <;> cases hi <;> simp_all [mxOk]
theorem cutKnown_ok {z b off p q m c : Nat} {u : AV} (hu : cutKnown z b off p q m c = some u) : p ≤ q ∧ q ≤ m ∧ m ≤ c ∧ Sc (b + 1) u ∧
    ∀ ρ : Rho, conc ρ u = .slice (some (if m = p then ρ.at b off else (ρ.at b off).add (p * z))) (q - p) (m - p) := by
  unfold cutKnown at hu
  split at hu
  · rename_i h1
    split at hu
    · rename_i h2
      split at hu
      · rename_i h3
        refine ⟨Nat.le_of_ble_eq_true h1, Nat.le_of_ble_eq_true h2, Nat.le_of_ble_eq_true h3, ?_⟩
        split at hu
        · rename_i h4
          have h4 : m = p := Nat.eq_of_beq_eq_true h4
          cases hu
          exact ⟨Nat.lt_succ_self b, fun ρ => by simp [conc, h4]⟩
        · rename_i h4
          have h4 : m ≠ p := fun e => by subst e; simp at h4
          cases hu
          exact ⟨Nat.lt_succ_self b, fun ρ => by simp [conc, h4, at_add]⟩
      · cases hu
    · cases hu
  · cases hu
theorem sliceKnown_ok (hT : TR ρ nx tm a.tmps) (isSlice : Bool) {z b off l c : Nat} {lo hi mx : Option Operand} {u : AV} (hu : sliceKnown tm z b off l c lo hi mx = some u) :
    ∃ p q m, (Instr.sliceBounds isSlice l c (lo.map a.eval) (hi.map a.eval) (mx.map a.eval)).run P w = .ok (p, q, m) w ∧ Sc (b + 1) u ∧
      conc ρ u = .slice (some (if m = p then ρ.at b off else (ρ.at b off).add (p * z))) (q - p) (m - p) := by
  unfold sliceKnown at hu
  split at hu
  · rename_i h0
    split at hu
    · rename_i p hp
      split at hu
      · rename_i q hq
        split at hu
        · rename_i m hm
          obtain ⟨h1, h2, h3, h4, h5⟩ := cutKnown_ok hu
          exact ⟨p, q, m, sliceBounds_ok hT isSlice hp hq hm h1 h2 h3 (mxOk_ok h0), h4, h5 ρ⟩
        · cases hu
      · cases hu
    · cases hu
  · cases hu
theorem noBounds_ok {lo hi mx : Option Operand} (hb : noBounds tm lo hi mx = true) : bound tm 0 lo = some 0 ∧ bound tm 0 hi = some 0 ∧ mx = none := by
  unfold noBounds at hb
  split at hb
  · rename_i p hp
    split at hb
    · split at hb
      · rename_i q hq
        split at hb
        · split at hb
          · exact ⟨hp, hq, rfl⟩
          · cases hb
        · cases hb
      · cases hb
    · cases hb
  · cases hb
theorem op_slice (hE : EnvOk E P) (hT : TR ρ nx tm a.tmps) (H : HR ρ h nx w) {t : Nat} {x : Operand} {lo hi mx : Option Operand} (ho : o.op = .slice t x lo hi mx) :
    OpOk P ρ h nx w o a (op1 tm x fun x => oV (sliceV E tm h t x lo hi mx)) := by
  refine .op1 hT x fun v hsc hv => .oV fun u hu => ?_
  have hexec : execOp a.eval o = (do pure (.value (← Instr.sliceAt t (conc ρ v) (lo.map a.eval) (hi.map a.eval) (mx.map a.eval)))) := by simp [execOp, ho, hv]
  refine .pv' (s := Instr.sliceAt t (conc ρ v) (lo.map a.eval) (hi.map a.eval) (mx.map a.eval)) ?_ hexec ?_
  all_goals unfold sliceV at hu
  all_goals split at hu
  all_goals first | (cases hu; done) | skip
  -- scopes
  · split at hu
    · split at hu
      · unfold sliceStr at hu
        repeat' split at hu
        all_goals first | (cases hu; done) | (cases hu; trivial)
      · cases hu
    · cases hu
  · repeat' split at hu
    all_goals first | (cases hu; done) | (cases hu; trivial)
  · split at hu
    · obtain ⟨p, q, m, _, h4, _⟩ := sliceKnown_ok (P := P) (w := w) hT true hu
      exact Sc.mono (Nat.succ_le_of_lt hsc) _ h4
    · cases hu
  · repeat' split at hu
    all_goals first | (cases hu; done) | skip
    unfold cutU at hu
    repeat' split at hu
    all_goals first | (cases hu; done) | (cases hu; exact hsc)
  · repeat' split at hu
    all_goals first | (cases hu; done) | (cases hu; exact hsc)
  · repeat' split at hu
    all_goals first | (cases hu; done) | skip
    obtain ⟨p, q, m, _, h4, _⟩ := sliceKnown_ok (P := P) (w := w) hT true hu
    exact Sc.mono (Nat.succ_le_of_lt hsc) _ h4
  -- runs
  · rename_i l n
    split at hu
    · split at hu
      · rename_i hd
        have hu' := hE.run_und hd w
        unfold sliceStr at hu
        split at hu
        · rename_i p hp
          split at hu
          · rename_i q hq
            split at hu
            · rename_i h1
              split at hu
              · rename_i h2
                cases hu
                have h1 := Nat.le_of_ble_eq_true h1
                have h2 := Nat.le_of_ble_eq_true h2
                have hb := sliceBounds_ok (P := P) (w := w) hT false (l := l) (c := l) (mx := none) hp hq rfl h1 h2 (Nat.le_refl _) (by simp)
                simp only [Option.map_none] at hb
                simp only [Option.map_none, Instr.sliceAt, Sem.run_bind, hu', Result.andThen_ok, Instr.slice, conc, toBA_size]
                simp [hb, toBA_extract l n p q h1 h2]
              · cases hu
            · cases hu
          · cases hu
        · cases hu
      · cases hu
    · cases hu
  · split at hu
    · rename_i z hz
      split at hu
      · rename_i hn
        cases hu
        obtain ⟨h1, h2, rfl⟩ := noBounds_ok hn
        obtain ⟨e, h3, h4⟩ := sliceElem_ok hE hz
        have h5 : (underlying t).run P w = .ok (.slice e) w := by simp [underlying, h3]
        have hb := sliceBounds_ok (P := P) (w := w) hT true (l := 0) (c := 0) (mx := none) h1 h2 rfl (Nat.le_refl _) (Nat.le_refl _) (Nat.le_refl _) (by simp)
        simp only [Option.map_none] at hb
        simp only [Option.map_none, Instr.sliceAt, Sem.run_bind, h5, Result.andThen_ok, Instr.slice, conc]
        simp [hb, hE.run_size h4]
      · cases hu
    · cases hu
  · rename_i b off l c
    split at hu
    · rename_i z hz
      obtain ⟨e, h3, h4⟩ := sliceElem_ok hE hz
      have h5 : (underlying t).run P w = .ok (.slice e) w := by simp [underlying, h3]
      obtain ⟨p, q, m, hb, _, hc⟩ := sliceKnown_ok (P := P) (w := w) hT true hu
      rw [hc]
      simp only [Instr.sliceAt, Sem.run_bind, h5, Result.andThen_ok, Instr.slice, conc]
      simp only [Sem.run_bind, h5, hb, hE.run_size h4, Result.andThen_ok, Sem.run_pure]
      by_cases hm : m = p <;> simp [hm]
    · cases hu
  · rename_i b off l z
    split at hu
    · rename_i z' hz
      split at hu
      · rename_i hzz
        have hzz : z = z' := Nat.eq_of_beq_eq_true hzz
        subst hzz
        split at hu
        · cases hu
        · rename_i zz
          split at hu
          · cases hu
          · split at hu
            · rename_i p hp
              split at hu
              · rename_i q hq
                obtain ⟨e, h3, h4⟩ := sliceElem_ok hE hz
                have h5 : (underlying t).run P w = .ok (.slice e) w := by simp [underlying, h3]
                unfold cutU at hu
                split at hu
                · rename_i h1
                  split at hu
                  · rename_i h2
                    split at hu
                    · rename_i hcl
                      have h1 := Nat.le_of_ble_eq_true h1
                      have h2 := Nat.le_of_ble_eq_true h2
                      have hcap := cap_le H (Nat.succ_pos zz) hcl
                      have hb := sliceBounds_ok (P := P) (w := w) hT true (l := l) (c := ρ.cap b off (zz + 1)) (mx := none) hp hq rfl h1 (Nat.le_trans h2 hcap) (Nat.le_refl _) (by simp)
                      simp only [Option.map_none] at hb
                      have hrun : (Instr.sliceAt t (conc ρ (.sliceU b off l (zz + 1))) (lo.map a.eval) (hi.map a.eval) (Option.map a.eval none)).run P w =
                          .ok (.slice (some (if ρ.cap b off (zz + 1) = p then ρ.at b off else (ρ.at b off).add (p * (zz + 1)))) (q - p) (ρ.cap b off (zz + 1) - p)) w := by
                        simp only [Option.map_none, Instr.sliceAt, Sem.run_bind, h5, Result.andThen_ok, Instr.slice, conc]
                        simp only [Sem.run_bind, h5, hb, hE.run_size h4, Result.andThen_ok, Sem.run_pure]
                        by_cases hm : ρ.cap b off (zz + 1) = p <;> simp [hm]
                      rw [hrun]
                      clear hrun hb
                      cases p with
                      | zero =>
                        cases hu
                        simp [conc, at_add]
                      | succ pp =>
                        simp only at hu
                        split at hu
                        · rename_i hlt
                          have hlt : pp + 1 < l := Nat.le_of_ble_eq_true hlt
                          cases hu
                          have e1 := cap_shift ρ b off (pp + 1) (zz + 1) (Nat.succ_pos zz)
                          have e2 : conc ρ (.sliceU b (Nat.add off (Nat.mul (pp + 1) (zz + 1))) (Nat.sub q (pp + 1)) (zz + 1)) =
                              Value.slice (some (ρ.at b (off + (pp + 1) * (zz + 1)))) (q - (pp + 1)) (ρ.cap b off (zz + 1) - (pp + 1)) := by
                            rw [← e1]; simp only [conc]; rfl
                          have hne : ¬ (ρ.cap b off (zz + 1) = pp + 1) := by
                            have h9 : l ≤ ρ.cap b off (zz + 1) := hcap
                            omega
                          rw [if_neg hne, at_add]
                          exact congrArg (fun v => Result.ok v w) e2.symm
                        · rename_i hlt
                          have hlt : ¬ (pp + 1 < l) := fun e => by
                            have : Nat.blt (pp + 1) l = true := Nat.ble_eq_true_of_le e
                            rw [this] at hlt; cases hlt
                          cases hu
                          have hpl : pp + 1 = l := by omega
                          have hql : q = l := by omega
                          subst hql
                          simp only [conc, at_add, hpl, Nat.sub_self]
                    · cases hu
                  · cases hu
                · cases hu
              · cases hu
            · cases hu
      · cases hu
    · cases hu
  · rename_i b off l z
    split at hu
    · rename_i z' hz
      split at hu
      · rename_i hn
        cases hu
        obtain ⟨h1, h2, rfl⟩ := noBounds_ok hn
        obtain ⟨e, h3, h4⟩ := sliceElem_ok hE hz
        have h5 : (underlying t).run P w = .ok (.slice e) w := by simp [underlying, h3]
        have hb := sliceBounds_ok (P := P) (w := w) hT true (l := 0) (c := ρ.cap b off z - l) (mx := none) h1 h2 rfl (Nat.le_refl _) (Nat.zero_le _) (Nat.le_refl _) (by simp)
        simp only [Option.map_none] at hb
        simp only [Option.map_none, Instr.sliceAt, Sem.run_bind, h5, Result.andThen_ok, Instr.slice, conc]
        simp only [Sem.run_bind, h5, hb, hE.run_size h4, Result.andThen_ok, Sem.run_pure]
        by_cases hm : ρ.cap b off z - l = 0 <;> simp [hm, Addr.add]
      · cases hu
    · cases hu
  · rename_i b off
    split at hu
    · rename_i d hd
      split at hu
      · rename_i n e
        split at hu
        · rename_i z hz
          obtain ⟨p, q, m, hb, _, hc⟩ := sliceKnown_ok (P := P) (w := w) hT false hu
          rw [hc]
          simp only [Instr.sliceAt, Sem.run_bind, hE.run_und hd, Result.andThen_ok, conc, Instr.sureAddr, Sem.run_pure, hb, hE.run_size hz]
        · cases hu
      · cases hu
    · cases hu
end
end Go.Ev
/-! THE EVALUATOR's SOUNDNESS, 5: sums, comparisons. -/
namespace Go.Ev
open Go
section
variable {E : Env} {P : Program} {ρ : Rho} {h : Hp} {nx : Nat} {w : World} {o : Oper} {a : Act} {tm : PT AV}

theorem beq_iff (a b : Nat) : Nat.beq a b = true ↔ a = b := ⟨Nat.eq_of_beq_eq_true, fun e => by subst e; simp⟩
theorem ieq_ok (x y : Int) : ieq x y = (x == y) := by
  rw [Bool.eq_iff_iff, beq_iff_eq]
  cases x with
  | ofNat a => cases y with
    | ofNat b => simp only [ieq, beq_iff, Int.ofNat_eq_natCast]; omega
    | negSucc b => simp only [ieq, Int.ofNat_eq_natCast]; constructor <;> intro h <;> first | (cases h; done) | omega
  | negSucc a => cases y with
    | ofNat b => simp only [ieq, Int.ofNat_eq_natCast]; constructor <;> intro h <;> first | (cases h; done) | omega
    | negSucc b => simp only [ieq, beq_iff]; omega
theorem blt_iff (a b : Nat) : Nat.blt a b = true ↔ a < b := ⟨Nat.le_of_ble_eq_true, Nat.ble_eq_true_of_le⟩
theorem ilt_ok (x y : Int) : ilt x y = decide (x < y) := by
  rw [Bool.eq_iff_iff, decide_eq_true_eq]
  cases x with
  | ofNat a => cases y with
    | ofNat b => simp only [ilt, blt_iff, Int.ofNat_eq_natCast]; omega
    | negSucc b => simp only [ilt, Int.ofNat_eq_natCast]; constructor <;> intro h <;> first | (cases h; done) | omega
  | negSucc a => cases y with
    | ofNat b => simp only [ilt, Int.ofNat_eq_natCast, true_iff]; omega
    | negSucc b => simp only [ilt, blt_iff]; omega
theorem wrap_mod (k : IntKind) (n : Nat) : k.wrap ((n % 2 ^ k.bits : Nat) : Int) = k.wrap n := by
  have e : ((n % 2 ^ k.bits : Nat) : Int) % (2 ^ k.bits : Int) = (n : Int) % (2 ^ k.bits : Int) := by
    rw [Int.natCast_emod, Int.natCast_pow]; exact Int.emod_emod_of_dvd _ (Int.dvd_refl _)
  unfold IntKind.wrap
  rw [e]
theorem beqK_ok {j k : IntKind} (hb : beqK j k = true) : j = k := by
  cases j <;> cases k <;> first | rfl | (revert hb; decide)
theorem nat2_ok {x y : Int} {k : Nat → Nat → Option AV} {e : Option AV} {u : AV} (hu : nat2 x y k e = some u) :
    (∃ p q : Nat, x = p ∧ y = q ∧ k p q = some u) ∨ e = some u := by
  cases x with
  | ofNat p => cases y with
    | ofNat q => exact .inl ⟨p, q, rfl, rfl, hu⟩
    | negSucc q => exact .inr hu
  | negSucc p => exact .inr hu
theorem intBin_ok {b : BinOp} {t : Nat} {k : IntKind} {x y : Int} {u : AV} (hu : intBin b k x y = some u) (hb : b ≠ .shl) (hb' : b ≠ .shr) :
    Sc nx u ∧ (binOp b t (.int k x) (.int k y)).run P w = .ok (conc ρ u) w := by
  have arith : ∀ n : Int, Sc nx (wrapZ k n) ∧ conc ρ (wrapZ k n) = .int k (k.wrap n) := wrapZ_ok k
  have arithN : ∀ n : Nat, Sc nx (wrapN k n) ∧ conc ρ (wrapN k n) = .int k (k.wrap n) := wrapN_ok k
  cases b <;> simp only [intBin] at hu
  case add =>
    rcases nat2_ok hu with ⟨p, q, rfl, rfl, hu⟩ | hu <;> cases hu
    · refine ⟨(arithN _).1, ?_⟩; rw [(arithN _).2]; simp [binOp, Op.intArith]
    · refine ⟨(arith _).1, ?_⟩; rw [(arith _).2]; simp [binOp, Op.intArith]
  case sub =>
    rcases nat2_ok hu with ⟨p, q, rfl, rfl, hu⟩ | hu
    · split at hu
      · rename_i hle
        have hle : q ≤ p := Nat.le_of_ble_eq_true hle
        cases hu
        refine ⟨(arithN _).1, ?_⟩; rw [(arithN _).2]
        have e : ((Nat.sub p q : Nat) : Int) = (p : Int) - q := by show ((p - q : Nat) : Int) = _; omega
        rw [e]; simp [binOp, Op.intArith]
      · cases hu
        refine ⟨(arith _).1, ?_⟩; rw [(arith _).2]; simp [binOp, Op.intArith]
    · cases hu
      refine ⟨(arith _).1, ?_⟩; rw [(arith _).2]; simp [binOp, Op.intArith]
  case mul =>
    rcases nat2_ok hu with ⟨p, q, rfl, rfl, hu⟩ | hu <;> cases hu
    · refine ⟨(arithN _).1, ?_⟩; rw [(arithN _).2]; simp [binOp, Op.intArith]
    · refine ⟨(arith _).1, ?_⟩; rw [(arith _).2]; simp [binOp, Op.intArith]
  case quo =>
    rcases nat2_ok hu with ⟨p, q, rfl, rfl, hu⟩ | hu
    · cases q with
      | zero => cases hu
      | succ q =>
        cases hu
        refine ⟨(arithN _).1, ?_⟩; rw [(arithN _).2]
        have h0 : ¬ ((q : Int) + 1 = 0) := by omega
        simp [binOp, Op.intDiv, h0]
        rfl
    · cases hu
  case rem =>
    rcases nat2_ok hu with ⟨p, q, rfl, rfl, hu⟩ | hu
    · cases q with
      | zero => cases hu
      | succ q =>
        cases hu
        refine ⟨trivial, ?_⟩
        have h0 : ¬ ((q : Int) + 1 = 0) := by omega
        simp [binOp, Op.intDiv, h0, conc]
        rfl
    · cases hu
  case and =>
    rcases nat2_ok hu with ⟨p, q, rfl, rfl, hu⟩ | hu
    · cases hu
      refine ⟨(arithN _).1, ?_⟩; rw [(arithN _).2, ← wrap_mod]
      have e : (BitVec.ofInt k.bits (p : Int) &&& BitVec.ofInt k.bits (q : Int)).toNat = Nat.land p q % 2 ^ k.bits := by
        simp only [BitVec.toNat_and, BitVec.toNat_ofInt]
        show _ = (p &&& q) % 2 ^ k.bits
        rw [Nat.and_mod_two_pow]
        congr 1 <;> omega
      have e2 : binOp .and t (.int k p) (.int k q) = pure (.int k (k.wrap (((BitVec.ofInt k.bits (p : Int) &&& BitVec.ofInt k.bits (q : Int)).toNat : Nat) : Int))) := by
        simp only [binOp, ne_eq, not_true_eq_false, if_false, Op.intBits]
      rw [e2, e]; rfl
    · cases hu
  case or =>
    rcases nat2_ok hu with ⟨p, q, rfl, rfl, hu⟩ | hu
    · cases hu
      refine ⟨(arithN _).1, ?_⟩; rw [(arithN _).2, ← wrap_mod]
      have e : (BitVec.ofInt k.bits (p : Int) ||| BitVec.ofInt k.bits (q : Int)).toNat = Nat.lor p q % 2 ^ k.bits := by
        simp only [BitVec.toNat_or, BitVec.toNat_ofInt]
        show _ = (p ||| q) % 2 ^ k.bits
        rw [Nat.or_mod_two_pow]
        congr 1 <;> omega
      have e2 : binOp .or t (.int k p) (.int k q) = pure (.int k (k.wrap (((BitVec.ofInt k.bits (p : Int) ||| BitVec.ofInt k.bits (q : Int)).toNat : Nat) : Int))) := by
        simp only [binOp, ne_eq, not_true_eq_false, if_false, Op.intBits]
      rw [e2, e]; rfl
    · cases hu
  case xor =>
    rcases nat2_ok hu with ⟨p, q, rfl, rfl, hu⟩ | hu
    · cases hu
      refine ⟨(arithN _).1, ?_⟩; rw [(arithN _).2, ← wrap_mod]
      have e : (BitVec.ofInt k.bits (p : Int) ^^^ BitVec.ofInt k.bits (q : Int)).toNat = Nat.xor p q % 2 ^ k.bits := by
        simp only [BitVec.toNat_xor, BitVec.toNat_ofInt]
        show _ = (p ^^^ q) % 2 ^ k.bits
        rw [Nat.xor_mod_two_pow]
        congr 1 <;> omega
      have e2 : binOp .xor t (.int k p) (.int k q) = pure (.int k (k.wrap (((BitVec.ofInt k.bits (p : Int) ^^^ BitVec.ofInt k.bits (q : Int)).toNat : Nat) : Int))) := by
        simp only [binOp, ne_eq, not_true_eq_false, if_false, Op.intBits]
      rw [e2, e]; rfl
    · cases hu
  case eql => cases hu; exact ⟨trivial, by simp [binOp, Op.intCmp, conc, ieq_ok]⟩
  case neq => cases hu; exact ⟨trivial, by simp [binOp, Op.intCmp, conc, ieq_ok, bne]⟩
  case lss => cases hu; exact ⟨trivial, by simp [binOp, Op.intCmp, conc, ilt_ok]⟩
  case leq => cases hu; exact ⟨trivial, by simp only [binOp, Op.intCmp, conc, ilt_ok]; simp [← Int.not_lt]⟩
  case gtr => cases hu; exact ⟨trivial, by simp [binOp, Op.intCmp, conc, ilt_ok]⟩
  case geq => cases hu; exact ⟨trivial, by simp only [binOp, Op.intCmp, conc, ilt_ok]; simp [← Int.not_lt]⟩
  case shl => exact absurd rfl hb
  case shr => exact absurd rfl hb'
  all_goals (cases hu)
theorem bits_eq (k : IntKind) : kbits k = k.bits := by cases k <;> rfl
theorem shl_ok {t : Nat} {k k' : IntKind} {x y : Int} {u : AV} (hu : shiftBin true k x y = some u) :
    Sc nx u ∧ (binOp .shl t (.int k x) (.int k' y)).run P w = .ok (conc ρ u) w := by
  unfold shiftBin at hu
  rcases nat2_ok hu with ⟨p, q, rfl, rfl, hu⟩ | hu
  · have hu2 : (match Nat.ble q (kbits k) with | true => some (wrapN k (Nat.mul p (Nat.pow 2 q))) | false => none) = some u := hu
    by_cases hle : Nat.ble q (kbits k) = true
    · rw [hle] at hu2
      have hle : q ≤ k.bits := by rw [← bits_eq]; exact Nat.le_of_ble_eq_true hle
      have hmin : min q k.bits = q := Nat.min_eq_left hle
      have h0 : ¬ ((q : Int) < 0) := by omega
      cases hu2
      refine ⟨(wrapN_ok (nx := nx) (ρ := ρ) k _).1, ?_⟩
      rw [(wrapN_ok (nx := nx) k _).2]
      simp [binOp, Op.shift, h0, hmin]
    · rw [Bool.not_eq_true] at hle
      rw [hle] at hu2
      cases hu2
  · cases hu
theorem shr_ok {t : Nat} {k k' : IntKind} {x y : Int} {u : AV} (hu : shiftBin false k x y = some u) :
    Sc nx u ∧ (binOp .shr t (.int k x) (.int k' y)).run P w = .ok (conc ρ u) w := by
  unfold shiftBin at hu
  rcases nat2_ok hu with ⟨p, q, rfl, rfl, hu⟩ | hu
  · have hu2 : (match Nat.ble q (kbits k) with | true => some (AV.int k (.ofNat (Nat.div p (Nat.pow 2 q)))) | false => none) = some u := hu
    by_cases hle : Nat.ble q (kbits k) = true
    · rw [hle] at hu2
      have hle : q ≤ k.bits := by rw [← bits_eq]; exact Nat.le_of_ble_eq_true hle
      have hmin : min q k.bits = q := Nat.min_eq_left hle
      have h0 : ¬ ((q : Int) < 0) := by omega
      cases hu2
      refine ⟨trivial, ?_⟩
      have e : Int.fdiv (p : Int) (2 ^ q) = ((Nat.div p (Nat.pow 2 q) : Nat) : Int) := by
        have : ((2 : Int) ^ q) = ((2 ^ q : Nat) : Int) := by simp
        rw [this, Int.fdiv_eq_ediv_of_nonneg _ (Int.natCast_nonneg _)]; rfl
      simp [binOp, Op.shift, h0, hmin, conc, e]
    · rw [Bool.not_eq_true] at hle
      rw [hle] at hu2
      cases hu2
  · cases hu
theorem bytesLess_total : ∀ x y : List UInt8, Op.bytesLess y x = !(Op.bytesLess x y || x == y)
  | [], [] => rfl
  | [], _ :: _ => rfl
  | _ :: _, [] => rfl
  | a :: x, b :: y => by
    have ih := bytesLess_total x y
    simp only [Op.bytesLess]
    by_cases h1 : a < b
    · have h2 : ¬ b < a := by simp [UInt8.lt_iff_toNat_lt] at *; omega
      have h3 : (b == a) = false := by rw [beq_eq_false_iff_ne]; intro e; subst e; simp [UInt8.lt_iff_toNat_lt] at h1
      simp [h1, h2, h3]
    · by_cases h2 : b < a
      · have h3 : (a == b) = false := by rw [beq_eq_false_iff_ne]; intro e; subst e; simp [UInt8.lt_iff_toNat_lt] at h2
        have h4 : ¬ (a :: x = b :: y) := by intro e; injection e with e1 _; subst e1; simp at h3
        simp [h1, h2, h3, h4]
      · have h3 : a = b := by rw [← UInt8.toNat_inj]; simp [UInt8.lt_iff_toNat_lt] at h1 h2; omega
        subst h3
        simp [h1, ih]
theorem strBin_ok {b : BinOp} {t l n l' n' : Nat} {u : AV} (hu : strBin b l n l' n' = some u) :
    Sc nx u ∧ (binOp b t (.string (toBA l n)) (.string (toBA l' n'))).run P w = .ok (conc ρ u) w := by
  cases b <;> simp only [strBin] at hu
  case add =>
    split at hu
    · rename_i hle
      have hle : l + l' ≤ 4611686018427387904 := Nat.le_of_ble_eq_true hle
      cases hu
      refine ⟨trivial, ?_⟩
      have := run_string_add_sum (P := P) w (toBA l n) (toBA l' n') (by simp; omega)
      simp only [binOp]
      rw [this, toBA_append]; rfl
    · cases hu
  case eql => cases hu; exact ⟨trivial, by simp [binOp, Op.stringOp, conc, strEq_ok]⟩
  case neq => cases hu; exact ⟨trivial, by simp [binOp, Op.stringOp, conc, strEq_ok]⟩
  case lss => cases hu; exact ⟨trivial, by simp [binOp, Op.stringOp, conc, strLess_ok _ _ _ _ _ (Nat.lt_succ_self _)]⟩
  case geq => cases hu; exact ⟨trivial, by simp [binOp, Op.stringOp, conc, strLess_ok _ _ _ _ _ (Nat.lt_succ_self _)]⟩
  case gtr => cases hu; exact ⟨trivial, by simp [binOp, Op.stringOp, conc, strLess_ok _ _ _ _ _ (Nat.lt_succ_self _), bytesLess_total (bytesL l n)]⟩
  case leq => cases hu; exact ⟨trivial, by simp [binOp, Op.stringOp, conc, strLess_ok _ _ _ _ _ (Nat.lt_succ_self _), bytesLess_total (bytesL l n)]⟩
  all_goals (cases hu)

theorem plain_ok (H : HR ρ h nx w) {b : Nat} (hp : plain h b = true) : ∃ o, h.get b = some o ∧ ∃ c e fr, w.heap[ρ.ι b]? = some (.cells c e fr) ∧ (∀ j, w.frozen? ⟨ρ.ι b, ρ.β b + j, none⟩ = false) ∧ w.frozen? ⟨ρ.ι b, c.size, none⟩ = false := by
  unfold plain at hp
  split at hp
  · rename_i o ho
    split at hp
    · rename_i n dz t fz e
      split at hp
      · rename_i k
        split at hp
        · obtain ⟨_, c, fr, h1, h2, h3, h4, h5⟩ := H.obj _ _ ho
          refine ⟨_, ho, c, e, fr, h1, fun j => ?_, ?_⟩
          · simp only [World.frozen?, h1]
            rcases h4 with h4 | h4 <;> (simp only [Bool.and_eq_false_iff, decide_eq_false_iff_not]; omega)
          · simp only [World.frozen?, h1]
            rcases h4 with h4 | h4 <;> (simp only [Bool.and_eq_false_iff, decide_eq_false_iff_not]; omega)
        · cases hp
      · cases hp
    · cases hp
  · cases hp
theorem sameAddr_ok (H : HR ρ h nx w) {b off b' off' : Nat} {r : Bool} (hq : eqPtr h b off b' off' = some r) :
    (sameAddr (ρ.at b off) (ρ.at b' off')).run P w = .ok r w := by
  unfold eqPtr at hq
  split at hq
  · rename_i hb
    have hb : b = b' := Nat.eq_of_beq_eq_true hb
    subst hb
    cases hq
    have e : (ρ.at b off == ρ.at b off') = Nat.beq off off' := by
      rw [Bool.eq_iff_iff, beq_iff_eq, beq_iff]
      simp only [Rho.at, Addr.mk.injEq, true_and, and_true]
      omega
    simp only [sameAddr]
    rw [if_pos (by simp [Rho.at])]
    simp [e]
  · rename_i hb
    have hb : b ≠ b' := fun e => by subst e; simp at hb
    split at hq
    · rename_i hp
      split at hq
      · rename_i hp'
        cases hq
        obtain ⟨ob, h1, c, e, fr, h2, h3, h4⟩ := plain_ok H hp
        obtain ⟨ob', h1', c', e', fr', h2', h3', h4'⟩ := plain_ok H hp'
        have hne : ρ.ι b ≠ ρ.ι b' := fun e => hb (H.inj b b' ob ob' h1 h1' e)
        have f1 : w.frozen? (ρ.at b off) = false := h3 off
        have f2 : w.frozen? (ρ.at b' off') = false := h3' off'
        have s1 : w.shape? (ρ.at b off).block = some (e, c.size) := by simp [Rho.at, World.shape?, h2]
        have s2 : w.shape? (ρ.at b' off').block = some (e', c'.size) := by simp [Rho.at, World.shape?, h2']
        have g1 : w.frozen? { block := (ρ.at b off).block, off := c.size } = false := h4
        have g2 : w.frozen? { block := (ρ.at b' off').block, off := c'.size } = false := h4'
        have hne' : ((ρ.at b off).block == (ρ.at b' off').block) = false := by rw [beq_eq_false_iff_ne]; exact hne
        simp [sameAddr, hne', f1, f2, noView, viewAt, s1, s2, mayBeOne, stringish, g1, g2]
      · cases hq
    · cases hq
theorem eqAt_ok (hE : EnvOk E P) (H : HR ρ h nx w) {d : TypeDesc} {t n : Nat} {x y : AV} {r : Bool} (hd : E.und t = some d) (hq : eqAt E h d x y = some r) :
    (Op.equalIn (n + 1) t (conc ρ x) (conc ρ y)).run P w = .ok r w := by
  have hu := hE.run_und hd w
  cases d with
  | int k0 =>
    cases x with
    | int k a => cases y with
      | int k' b =>
        have hq : (match beqK k k' with | true => some (ieq a b) | false => none) = some r := hq
        by_cases hk : beqK k k' = true
        · rw [hk] at hq
          cases hq
          have hk := beqK_ok hk
          subst hk
          simp only [conc, ieq_ok]
          exact run_equalIn_int w n t k k0 a b (hE.und hd)
        · rw [Bool.not_eq_true] at hk; rw [hk] at hq; cases hq
      | _ => cases hq
    | _ => cases hq
  | string =>
    cases x with
    | str l1 n1 => cases y with
      | str l2 n2 =>
        cases hq
        simp only [conc, strEq_ok]
        rw [run_equalIn_string w n t _ _ (hE.und hd), toBA_toList, toBA_toList]
      | _ => cases hq
    | _ => cases hq
  | bool =>
    cases x with
    | bool p => cases y with
      | bool q =>
        cases hq
        simp only [conc]
        rw [run_equalIn_bool' w n t p q (hE.und hd)]
        cases p <;> cases q <;> rfl
      | _ => cases hq
    | _ => cases hq
  | pointer e =>
    cases x with
    | ptr b o => cases y with
      | ptr b' o' =>
        have hq : (match nonzero E e with | true => eqPtr h b o b' o' | false => none) = some r := hq
        by_cases hnz : nonzero E e = true
        · rw [hnz] at hq
          obtain ⟨m, hm⟩ := nonzero_ok hnz
          have := sameAddr_ok (P := P) H hq
          simp only [Op.equalIn, Sem.run_bind, hu, Result.andThen_ok, conc, hE.run_size hm, Sem.run_ite, this]
          rw [if_pos (by omega)]
        · rw [Bool.not_eq_true] at hnz; rw [hnz] at hq; cases hq
      | nilPtr => cases hq; simp only [Op.equalIn, Sem.run_bind, hu, Result.andThen_ok, conc, Sem.run_pure]
      | _ => cases hq
    | nilPtr => cases y with
      | ptr b' o' => cases hq; simp only [Op.equalIn, Sem.run_bind, hu, Result.andThen_ok, conc, Sem.run_pure, Option.isNone_some]
      | nilPtr => cases hq; simp only [Op.equalIn, Sem.run_bind, hu, Result.andThen_ok, conc, Sem.run_pure, Option.isNone_none]
      | _ => cases hq
    | _ => cases hq
  | interface ms =>
    cases x with
    | nilIface => cases y with
      | nilIface =>
        have hq : (match ms.toList with | [] => some true | _ :: _ => none) = some r := hq
        cases hms : ms.toList with
        | nil => rw [hms] at hq; cases hq; simp only [Op.equalIn, Sem.run_bind, hu, Result.andThen_ok, conc, Sem.run_pure]
        | cons _ _ => rw [hms] at hq; cases hq
      | iface _ _ => cases hq; simp only [Op.equalIn, Sem.run_bind, hu, Result.andThen_ok, conc, Sem.run_pure]
      | _ => cases hq
    | iface _ _ => cases y with
      | nilIface => cases hq; simp only [Op.equalIn, Sem.run_bind, hu, Result.andThen_ok, conc, Sem.run_pure]
      | _ => cases hq
    | _ => cases hq
  | slice e =>
    cases x with
    | slice _ _ _ _ => cases y with
      | nilSlice => cases hq; simp only [Op.equalIn, Sem.run_bind, hu, Result.andThen_ok, conc, Sem.run_pure]
      | _ => cases hq
    | sliceU _ _ _ _ => cases y with
      | nilSlice => cases hq; simp only [Op.equalIn, Sem.run_bind, hu, Result.andThen_ok, conc, Sem.run_pure]
      | _ => cases hq
    | sliceZ _ _ _ _ => cases y with
      | nilSlice => cases hq; simp only [Op.equalIn, Sem.run_bind, hu, Result.andThen_ok, conc, Sem.run_pure]
      | _ => cases hq
    | nilSlice => cases y with
      | nilSlice => cases hq; simp only [Op.equalIn, Sem.run_bind, hu, Result.andThen_ok, conc, Sem.run_pure, Option.isNone_none]
      | slice _ _ _ _ => cases hq; simp only [Op.equalIn, Sem.run_bind, hu, Result.andThen_ok, conc, Sem.run_pure, Option.isNone_some]
      | sliceU _ _ _ _ => cases hq; simp only [Op.equalIn, Sem.run_bind, hu, Result.andThen_ok, conc, Sem.run_pure, Option.isNone_some]
      | sliceZ _ _ _ _ => cases hq; simp only [Op.equalIn, Sem.run_bind, hu, Result.andThen_ok, conc, Sem.run_pure, Option.isNone_some]
      | _ => cases hq
    | _ => cases hq
  | map k v =>
    cases x with
    | map _ => cases y with
      | nilMap => cases hq; simp only [Op.equalIn, Sem.run_bind, hu, Result.andThen_ok, conc, Sem.run_pure]
      | _ => cases hq
    | nilMap => cases y with
      | nilMap => cases hq; simp only [Op.equalIn, Sem.run_bind, hu, Result.andThen_ok, conc, Sem.run_pure, Option.isNone_none]
      | map _ => cases hq; simp only [Op.equalIn, Sem.run_bind, hu, Result.andThen_ok, conc, Sem.run_pure, Option.isNone_some]
      | _ => cases hq
    | _ => cases hq
  | func _ _ _ =>
    cases x with
    | func _ _ _ => cases y with
      | nilFunc => cases hq; simp only [Op.equalIn, Sem.run_bind, hu, Result.andThen_ok, conc, Sem.run_pure]
      | _ => cases hq
    | nilFunc => cases y with
      | nilFunc => cases hq; simp only [Op.equalIn, Sem.run_bind, hu, Result.andThen_ok, conc, Sem.run_pure]
      | func _ _ _ => cases hq; simp only [Op.equalIn, Sem.run_bind, hu, Result.andThen_ok, conc, Sem.run_pure]
      | _ => cases hq
    | _ => cases hq
  | _ => cases hq
theorem eq1_ok (hE : EnvOk E P) (H : HR ρ h nx w) {t n : Nat} {x y : AV} {r : Bool} (hq : eq1 E h t x y = some r) :
    (Op.equalIn (n + 1) t (conc ρ x) (conc ρ y)).run P w = .ok r w := by
  unfold eq1 at hq
  split at hq
  · rename_i d hd; exact eqAt_ok hE H hd hq
  · cases hq
theorem eqFields_ok (hE : EnvOk E P) (H : HR ρ h nx w) {n : Nat} {xs ys : List AV} : ∀ {fs : List Field} {r : Bool}, (∀ f ∈ fs, f.name ≠ "_") → eqFields E h fs xs ys = some r →
    (Op.eqFields (n + 1) (concs ρ xs).toArray (concs ρ ys).toArray fs).run P w = .ok r w
  | [], r, _, hq => by cases hq; rfl
  | f :: fs, r, hn, hq => by
    simp only [Ev.eqFields] at hq
    split at hq
    · rename_i g hg
      split at hq
      · split at hq
        · rename_i x hx
          split at hq
          · rename_i y hy
            split at hq
            · rename_i b hb
              have h1 := eq1_ok (n := n) hE H hb
              simp only [nth_eq] at hx hy
              have p1 : (Go.part f.type (concs ρ xs).toArray f.offset).run P w = .ok (conc ρ x) w := by simp [Go.part, hE.run_isAgg hg, concs_get, hx]
              have p2 : (Go.part f.type (concs ρ ys).toArray f.offset).run P w = .ok (conc ρ y) w := by simp [Go.part, hE.run_isAgg hg, concs_get, hy]
              have hname := hn f (by simp)
              unfold Op.eqFields
              rw [if_pos hname]
              simp only [Sem.run_bind, p1, p2, h1, Result.andThen_ok]
              cases b
              · cases hq; simp
              · simp only [Bool.not_true, Bool.false_eq_true, if_false]
                exact eqFields_ok hE H (fun f hf => hn f (by simp [hf])) hq
            · cases hq
          · cases hq
        · cases hq
      · cases hq
    · cases hq
theorem eqV_ok (hE : EnvOk E P) (H : HR ρ h nx w) {t n : Nat} {x y : AV} {r : Bool} (hq : eqV E h t x y = some r) :
    (Op.equalIn (n + 2) t (conc ρ x) (conc ρ y)).run P w = .ok r w := by
  unfold eqV at hq
  split at hq
  · rename_i xs
    split at hq
    · rename_i ys
      split at hq
      · rename_i d hd
        split at hq
        · rename_i fs
          split at hq
          · rename_i hm
            obtain ⟨h1, h2, h3⟩ := hE.eqOk t hm
            have hu := hE.und hd
            have hf : P.fieldsOf t = fs := by simp [Program.fieldsOf, hu]
            rw [hf] at h3
            have h4 := eqFields_ok (n := n) hE H h3 hq
            simp only [conc]
            rw [run_equalIn_struct w (n + 1) t _ _ (by rw [hf]; exact hu) h1, hf, h4]
          · cases hq
        · cases hq
      · cases hq
    · cases hq
  · exact eq1_ok hE H hq
end
end Go.Ev
/-! THE EVALUATOR's SOUNDNESS, 6: binary operations, conversions, maps. -/
namespace Go.Ev
open Go
section
variable {E : Env} {P : Program} {ρ : Rho} {h : Hp} {nx : Nat} {w : World} {o : Oper} {a : Act} {tm : PT AV}

theorem run_either {α : Type} {c : Prop} [Decidable c] {A B : Sem α} {r : Result α} (hA : A.run P w = r) (hB : B.run P w = r) : (if c then A else B).run P w = r := by
  split <;> assumption
theorem conc_nilIface_inv {v : AV} (hs : ∀ i, v ≠ .sym i) (hv : conc ρ v = .nilIface) : v = .nilIface := by
  cases v <;> simp [conc] at hv ⊢
  exact hs _ rfl
theorem eqGuard_ok (hE : EnvOk E P) {b : BinOp} {t : Nat} {x y : Operand} {u v : AV} {r : Bool} (hq : eqV E h t u v = some r) :
    (eqGuard b t x y (conc ρ u) (conc ρ v)).run P w = .ok () w := by
  by_cases hb : b = .eql ∨ b = .neq
  case neg => cases b <;> first | exact absurd (Or.inl rfl) hb | exact absurd (Or.inr rfl) hb | (simp [eqGuard]; done)
  have hb' : eqGuard b t x y (conc ρ u) (conc ρ v) = eqGuard .eql t x y (conc ρ u) (conc ρ v) := by rcases hb with rfl | rfl <;> rfl
  rw [hb']
  unfold eqV at hq
  split at hq
  · split at hq
    · split at hq
      · split at hq
        · split at hq
          · rename_i hm
            simp only [conc]
            exact run_eqGuard_agg w _ t x y _ _ (hE.eqOk t hm).2.1
          · cases hq
        · cases hq
      · cases hq
    · cases hq
  · rename_i hnagg
    unfold eq1 at hq
    split at hq
    · rename_i d hd
      by_cases hn : u = .nilIface ∧ v = .nilIface
      · obtain ⟨rfl, rfl⟩ := hn
        cases d <;> try (cases hq; done)
        rename_i ms
        have hq : (match ms.toList with | [] => some true | _ :: _ => none) = some r := hq
        cases hms : ms.toList with
        | cons _ _ => rw [hms] at hq; cases hq
        | nil =>
          have hms' : ms = #[] := by apply Array.ext'; simpa using hms
          have hu := hE.run_und hd w
          have hg : ∀ n, (Op.eqGuardIn (n + 1) t .nilIface .nilIface).run P w = .ok false w := fun n => by
            simp only [Op.eqGuardIn, Sem.run_bind, hu, Result.andThen_ok, Sem.run_pure, hms']; rfl
          have hg' : (Op.eqGuardIn Op.maxDepth t .nilIface .nilIface).run P w = .ok false w := hg 9999
          simp only [eqGuard, conc, Bool.not_true, Bool.false_eq_true, if_false, Sem.run_bind, Sem.run_pure, Result.andThen_ok]
          exact run_either rfl (by simp only [Sem.run_bind, hg', Result.andThen_ok, Bool.false_eq_true, if_false, Sem.run_pure])
      · have hs : ∀ i, u ≠ .sym i := fun i e => by subst e; cases d <;> cases hq
        have hs' : ∀ i, v ≠ .sym i := fun i e => by subst e; cases d <;> cases u <;> cases hq
        have hag : ∀ xs, conc ρ u ≠ .agg xs := fun xs e => by
          cases u <;> simp [conc] at e
          · exact hnagg _ rfl
          · exact hs _ rfl
        simp only [eqGuard, Bool.not_true, Bool.false_eq_true, if_false, Sem.run_bind, Sem.run_pure, Result.andThen_ok]
        split
        · rename_i e1 e2
          exact absurd ⟨conc_nilIface_inv hs e1, conc_nilIface_inv hs' e2⟩ hn
        · rename_i e1 _
          exact absurd e1 (hag _)
        · rfl
    · cases hq
theorem eqGuard_int (b : BinOp) (t : Nat) (x y : Operand) (k k' : IntKind) (p q : Int) : (eqGuard b t x y (.int k p) (.int k' q)).run P w = .ok () w := by
  cases b <;> simp [eqGuard]
theorem eqGuard_str (b : BinOp) (t : Nat) (x y : Operand) (p q : ByteArray) : (eqGuard b t x y (.string p) (.string q)).run P w = .ok () w := by
  cases b <;> simp [eqGuard]
theorem op_binOp (hE : EnvOk E P) (hT : TR ρ nx tm a.tmps) (H : HR ρ h nx w) {b : BinOp} {t t' : Nat} {x y : Operand} (ho : o.op = .binOp b t x y t') :
    OpOk P ρ h nx w o a (op1 tm x fun x => op1 tm y fun y => binV E h b t x y) := by
  refine .op1 hT x fun u _ hu => .op1 hT y fun v _ hv => ?_
  have hexec : execOp a.eval o = (do pure (.value (← (do eqGuard b t x y (conc ρ u) (conc ρ v); binOp b t (conc ρ u) (conc ρ v))))) := by simp [execOp, ho, hu, hv]
  have pure' : ∀ z, Sc nx z → (eqGuard b t x y (conc ρ u) (conc ρ v)).run P w = .ok () w → (binOp b t (conc ρ u) (conc ρ v)).run P w = .ok (conc ρ z) w → OpOk P ρ h nx w o a (.pv z) := fun z hz h1 h2 =>
    .pv' hz hexec (by simp [h1, h2])
  have eqs : (binOp .eql t (conc ρ u) (conc ρ v) = (do pure (.bool (← Op.equal t (conc ρ u) (conc ρ v)))) ∧ binOp .neq t (conc ρ u) (conc ρ v) = (do pure (.bool (!(← Op.equal t (conc ρ u) (conc ρ v)))))) →
      ∀ neg : Bool, b = (if neg then .neq else .eql) → OpOk P ρ h nx w o a (eqO (eqV E h t u v) neg) := fun hgen neg hb => by
    cases hq : eqV E h t u v with
    | none => trivial
    | some r =>
      have h1 := eqGuard_ok (P := P) (ρ := ρ) (w := w) (b := b) (x := x) (y := y) hE hq
      have h2 := eqV_ok (P := P) (ρ := ρ) (w := w) (n := 9998) hE H hq
      have e1 : (binOp .eql t (conc ρ u) (conc ρ v)) = (do pure (.bool (← Op.equal t (conc ρ u) (conc ρ v)))) := hgen.1
      have e2 : (binOp .neq t (conc ρ u) (conc ρ v)) = (do pure (.bool (!(← Op.equal t (conc ρ u) (conc ρ v))))) := hgen.2
      cases neg
      · simp only [Bool.false_eq_true, if_false] at hb
        subst hb
        exact pure' (.bool r) trivial h1 (by rw [e1]; simp only [Op.equal, Op.maxDepth, Sem.run_bind, h2, Result.andThen_ok, Sem.run_pure, conc])
      · simp only [if_true] at hb
        subst hb
        exact pure' (.bool (!r)) trivial h1 (by rw [e2]; simp only [Op.equal, Op.maxDepth, Sem.run_bind, h2, Result.andThen_ok, Sem.run_pure, conc])
  cases u with
  | int k p =>
    cases v with
    | int k' q =>
      have g := eqGuard_int (P := P) (w := w) b t x y k k' p q
      by_cases hs : b = .shl
      · subst hs
        refine .oV fun z hz => ?_
        obtain ⟨h1, h2⟩ := shl_ok (nx := nx) (ρ := ρ) (P := P) (w := w) (t := t) (k' := k') hz
        exact pure' z h1 g h2
      by_cases hs' : b = .shr
      · subst hs'
        refine .oV fun z hz => ?_
        obtain ⟨h1, h2⟩ := shr_ok (nx := nx) (ρ := ρ) (P := P) (w := w) (t := t) (k' := k') hz
        exact pure' z h1 g h2
      have e : binV E h b t (.int k p) (.int k' q) = match beqK k k' with | true => oV (intBin b k p q) | false => .fail := by
        cases b <;> first | rfl | exact absurd rfl hs | exact absurd rfl hs'
      rw [e]
      by_cases hk : beqK k k' = true
      · rw [hk]
        have hk := beqK_ok hk
        subst hk
        refine .oV fun z hz => ?_
        obtain ⟨h1, h2⟩ := intBin_ok (nx := nx) (ρ := ρ) (P := P) (w := w) (t := t) hz hs hs'
        exact pure' z h1 g h2
      · rw [Bool.not_eq_true] at hk; rw [hk]; trivial
    | _ => trivial
  | str l n =>
    cases v with
    | str l' n' =>
      refine .oV fun z hz => ?_
      obtain ⟨h1, h2⟩ := strBin_ok (nx := nx) (ρ := ρ) (P := P) (w := w) (t := t) hz
      exact pure' z h1 (eqGuard_str b t x y _ _) h2
    | _ => trivial
  | sym i =>
    have hn : eqV E h t (.sym i) v = none := by
      show eq1 E h t (.sym i) v = none
      unfold eq1
      split
      · rename_i d _; cases d <;> rfl
      · rfl
    cases b <;> first
      | trivial
      | (simp only [binV, hn]; trivial)
  | _ =>
    cases b <;> first
      | trivial
      | exact eqs (by simp only [conc]; exact ⟨by simp only [binOp], by simp only [binOp]⟩) false rfl
      | exact eqs (by simp only [conc]; exact ⟨by simp only [binOp], by simp only [binOp]⟩) true rfl
end
end Go.Ev
/-! THE EVALUATOR's SOUNDNESS, 7: maps. -/
namespace Go.Ev
open Go
section
variable {E : Env} {P : Program} {ρ : Rho} {h : Hp} {nx : Nat} {w : World} {o : Oper} {a : Act} {tm : PT AV}

theorem pairEq_ok {p q r s : Nat} (hp : pairEq p q r s = true) : p = r ∧ q = s := by
  unfold pairEq at hp
  split at hp
  · rename_i h1; exact ⟨Nat.eq_of_beq_eq_true h1, Nat.eq_of_beq_eq_true hp⟩
  · cases hp
theorem beqB_ok {x y : Bool} (hb : beqB x y = true) : x = y := by cases x <;> cases y <;> simp_all [beqB]
mutual
theorem beqV_ok : ∀ (x y : AV), beqV x y = true → x = y
  | .bool x, y, hb => by cases y <;> simp only [beqV] at hb <;> first | (cases hb; done) | rw [beqB_ok hb]
  | .int k x, y, hb => by
    cases y <;> simp only [beqV] at hb <;> try (cases hb; done)
    split at hb
    · rename_i hk
      have := beqK_ok hk; subst this
      rw [ieq_ok, beq_iff_eq] at hb; rw [hb]
    · cases hb
  | .str l n, y, hb => by cases y <;> simp only [beqV] at hb <;> first | (cases hb; done) | (obtain ⟨rfl, rfl⟩ := pairEq_ok hb; rfl)
  | .ptr l n, y, hb => by cases y <;> simp only [beqV] at hb <;> first | (cases hb; done) | (obtain ⟨rfl, rfl⟩ := pairEq_ok hb; rfl)
  | .nilPtr, y, hb => by cases y <;> simp only [beqV] at hb <;> first | rfl | (cases hb; done)
  | .slice b o l c, y, hb => by
    cases y <;> simp only [beqV] at hb <;> try (cases hb; done)
    split at hb
    · rename_i h1; obtain ⟨rfl, rfl⟩ := pairEq_ok h1; obtain ⟨rfl, rfl⟩ := pairEq_ok hb; rfl
    · cases hb
  | .sliceU b o l c, y, hb => by
    cases y <;> simp only [beqV] at hb <;> try (cases hb; done)
    split at hb
    · rename_i h1; obtain ⟨rfl, rfl⟩ := pairEq_ok h1; obtain ⟨rfl, rfl⟩ := pairEq_ok hb; rfl
    · cases hb
  | .sliceZ b o l c, y, hb => by
    cases y <;> simp only [beqV] at hb <;> try (cases hb; done)
    split at hb
    · rename_i h1; obtain ⟨rfl, rfl⟩ := pairEq_ok h1; obtain ⟨rfl, rfl⟩ := pairEq_ok hb; rfl
    · cases hb
  | .nilSlice, y, hb => by cases y <;> simp only [beqV] at hb <;> first | rfl | (cases hb; done)
  | .map r, y, hb => by cases y <;> simp only [beqV] at hb <;> first | (cases hb; done) | rw [Nat.eq_of_beq_eq_true hb]
  | .nilMap, y, hb => by cases y <;> simp only [beqV] at hb <;> first | rfl | (cases hb; done)
  | .func f p q, y, hb => by
    cases y <;> simp only [beqV] at hb <;> try (cases hb; done)
    split at hb
    · rename_i h1
      split at hb
      · rename_i h2
        rw [Nat.eq_of_beq_eq_true h1, beqVs_ok _ _ h2, beqVs_ok _ _ hb]
      · cases hb
    · cases hb
  | .nilFunc, y, hb => by cases y <;> simp only [beqV] at hb <;> first | rfl | (cases hb; done)
  | .iface t v, y, hb => by
    cases y <;> simp only [beqV] at hb <;> try (cases hb; done)
    split at hb
    · rename_i h1
      rw [Nat.eq_of_beq_eq_true h1, beqV_ok _ _ hb]
    · cases hb
  | .nilIface, y, hb => by cases y <;> simp only [beqV] at hb <;> first | rfl | (cases hb; done)
  | .agg p, y, hb => by cases y <;> simp only [beqV] at hb <;> first | (cases hb; done) | rw [beqVs_ok _ _ hb]
  | .tuple p, y, hb => by cases y <;> simp only [beqV] at hb <;> first | (cases hb; done) | rw [beqVs_ok _ _ hb]
  | .sym i, y, hb => by cases y <;> simp only [beqV] at hb <;> first | (cases hb; done) | rw [Nat.eq_of_beq_eq_true hb]
theorem beqVs_ok : ∀ (x y : List AV), beqVs x y = true → x = y
  | [], [], _ => rfl
  | [], _ :: _, hb => by simp [beqVs] at hb
  | _ :: _, [], hb => by simp [beqVs] at hb
  | x :: p, y :: q, hb => by
    simp only [beqVs] at hb
    split at hb
    · rename_i h1; rw [beqV_ok _ _ h1, beqVs_ok _ _ hb]
    · cases hb
end

theorem checkKey_ok (hE : EnvOk E P) {kt : Nat} {k : AV} (hk : keyOk E kt k = true) (e : Bool) : (Instr.checkKey e 10000 kt (conc ρ k)).run P w = .ok () w := by
  have gen : ∀ n, (Instr.checkKey e (n + 2) kt (conc ρ k)).run P w = .ok () w := fun n => by
    unfold keyOk at hk
    split at hk
    · rename_i d hd
      have hu := hE.run_und hd w
      cases d with
      | interface _ => cases hk
      | array _ _ => cases hk
      | struct fs =>
        cases k with
        | agg cs =>
          simp only at hk
          split at hk
          · rename_i hm
            unfold Instr.checkKey
            simp only [Sem.run_bind, hu, Result.andThen_ok, conc]
            rw [← Array.forIn_toList]
            generalize fs.toList = l at hk
            induction l with
            | nil => simp
            | cons f l ih =>
              simp only [keyFields] at hk
              split at hk
              · rename_i df hdf
                have hn : ∃ v, cs[f.offset]? = some v ∧ keyFields E cs l = true ∧ E.isAgg f.type = some false ∧ (Instr.checkKey e (n + 1) f.type (conc ρ v)).run P w = .ok () w := by
                  have huf := hE.run_und hdf w
                  cases df <;> first
                    | (cases hk; done)
                    | (simp only [nth_eq] at hk
                       split at hk
                       · rename_i v hv
                         refine ⟨v, hv, hk, by unfold Env.isAgg; rw [hdf], ?_⟩
                         simp only [Instr.checkKey, Sem.run_bind, huf, Result.andThen_ok]
                         rfl
                       · cases hk)
                obtain ⟨v, hv, hl, hag, hck⟩ := hn
                have hp : (Go.part f.type (concs ρ cs).toArray f.offset).run P w = .ok (conc ρ v) w := by simp [Go.part, hE.run_isAgg hag, concs_get, hv]
                simp only [List.forIn_cons, Sem.run_bind]
                split
                · simp only [Sem.run_bind, hp, Result.andThen_ok, hck, Sem.run_pure]
                  exact ih hl
                · simp only [Sem.run_pure, Result.andThen_ok]
                  exact ih hl
              · cases hk
          · cases hk
        | _ => cases hk
      | _ => simp only [Instr.checkKey, Sem.run_bind, hu, Result.andThen_ok]; rfl
    · cases hk
  exact gen 9998

/-- What findKey tells, as the model has it. -/
def found (ρ : Rho) (r : Option (Nat × AV × Nat)) : Option (Nat × Value) := r.map fun x => (x.1, conc ρ x.2.1)
theorem findAsking_ok (hE : EnvOk E P) (H : HR ρ h nx w) {kt : Nat} {k : AV} : ∀ {es : List (AV × AV × Nat)} {i : Nat} {r : Option (Nat × AV × Nat)}, findKey E h kt k es i = some r →
    (Instr.findAsking kt (conc ρ k) (es.map (centry ρ)) i).run P w = .ok (found ρ r) w
  | [], i, r, hf => by
    simp only [Ev.findKey] at hf
    split at hf
    · cases hf; rfl
    · cases hf
  | (x, v, b) :: es, i, r, hf => by
    simp only [Ev.findKey] at hf
    split at hf
    · rename_i c hc
      have h1 := eqV_ok (P := P) (ρ := ρ) (w := w) (n := 9998) hE H hc
      have h2 : (Op.equal kt (conc ρ k) (centry ρ (x, v, b)).key).run P w = .ok c w := h1
      simp only [List.map_cons, Instr.findAsking, Sem.run_bind, h2, Result.andThen_ok]
      cases c with
      | true =>
        simp only at hf
        split at hf
        · split at hf
          · cases hf; simp [found, centry]
          · cases hf
        · cases hf
      | false =>
        simp only [Bool.false_eq_true, if_false]
        exact findAsking_ok hE H hf
    · cases hf
theorem findNow_ok (hE : EnvOk E P) (H : HR ρ h nx w) {kt : Nat} {d : TypeDesc} (hd : E.und kt = some d) {k : AV} : ∀ {es : List (AV × AV × Nat)} {i : Nat} {r : Option (Nat × AV × Nat)} {r' : Option (Nat × Value)}, findKey E h kt k es i = some r →
    Instr.findNow d (conc ρ k) (es.map (centry ρ)) i = some r' → r' = found ρ r
  | [], i, r, r', hf, hn => by
    simp only [Ev.findKey] at hf
    split at hf
    · cases hf; cases hn; rfl
    · cases hf
  | (x, v, b) :: es, i, r, r', hf, hn => by
    simp only [Ev.findKey] at hf
    split at hf
    · rename_i c hc
      have h1 := eqV_ok (P := P) (ρ := ρ) (w := w) (n := 9998) hE H hc
      have hs : ∀ c', Instr.sameNow d (conc ρ k) (conc ρ x) = some c' → c' = c := fun c' hc' => by
        have hu := hE.run_und hd w
        cases hk : conc ρ k <;> cases hx : conc ρ x <;> cases d <;> simp only [hk, hx, Instr.sameNow] at hc' <;> try (cases hc'; done)
        · rw [hk, hx, run_equalIn_bool' w _ kt _ _ (hE.und hd)] at h1
          cases h1; cases hc'; rfl
        · split at hc'
          · rename_i hkk
            subst hkk
            rw [hk, hx, run_equalIn_int w _ kt _ _ _ _ (hE.und hd)] at h1
            cases h1; cases hc'; rfl
          · cases hc'
        · rw [hk, hx, run_equalIn_string w _ kt _ _ (hE.und hd)] at h1
          cases h1; cases hc'; rw [beq_toListBytes]
      simp only [List.map_cons, Instr.findNow, centry] at hn
      cases hsn : Instr.sameNow d (conc ρ k) (conc ρ x) with
      | none => rw [hsn] at hn; cases hn
      | some c' =>
        have := hs c' hsn
        subst this
        rw [hsn] at hn
        cases c' with
        | true =>
          simp only at hf
          split at hf
          · split at hf
            · cases hf; cases hn; rfl
            · cases hf
          · cases hf
        | false => exact findNow_ok hE H hd hf hn
    · cases hf
theorem keyOk_of_find {kt : Nat} {k : AV} : ∀ {es : List (AV × AV × Nat)} {i : Nat} {r : Option (Nat × AV × Nat)}, findKey E h kt k es i = some r → keyOk E kt k = true
  | [], i, r, hf => by
    simp only [Ev.findKey] at hf
    split at hf
    · assumption
    · cases hf
  | (x, v, b) :: es, i, r, hf => by
    simp only [Ev.findKey] at hf
    split at hf
    · rename_i c hc
      cases c with
      | true =>
        simp only at hf
        split at hf
        · assumption
        · cases hf
      | false => exact keyOk_of_find hf
    · cases hf
theorem findKey_ok (hE : EnvOk E P) (H : HR ρ h nx w) {kt : Nat} {k : AV} {es : List (AV × AV × Nat)} {r : Option (Nat × AV × Nat)} (hf : findKey E h kt k es 0 = some r) :
    (Instr.findKey kt (conc ρ k) (es.map (centry ρ))).run P w = .ok (found ρ r) w := by
  have hk := keyOk_of_find hf
  unfold keyOk at hk
  split at hk
  · rename_i d hd
    have hu := hE.run_und hd w
    simp only [Instr.findKey, Sem.run_bind, hu, Result.andThen_ok]
    cases hn : Instr.findNow d (conc ρ k) (es.map (centry ρ)) 0 with
    | some r' => rw [findNow_ok hE H hd hf hn]; rfl
    | none => exact findAsking_ok hE H hf
  · cases hk
/-- What is found stands there, under that very key. -/
theorem find_at {kt : Nat} {k : AV} : ∀ {es : List (AV × AV × Nat)} {i j : Nat} {v : AV} {b : Nat}, findKey E h kt k es i = some (some (j, v, b)) → i ≤ j ∧ es[j - i]? = some (k, v, b)
  | [], i, j, v, b, hf => by
    simp only [Ev.findKey] at hf
    split at hf <;> cases hf
  | (x, v', b') :: es, i, j, v, b, hf => by
    simp only [Ev.findKey] at hf
    split at hf
    · rename_i c hc
      cases c with
      | true =>
        simp only at hf
        split at hf
        · split at hf
          · rename_i hb
            cases hf
            rw [beqV_ok _ _ hb]
            simp
          · cases hf
        · cases hf
      | false =>
        obtain ⟨h1, h2⟩ := find_at hf
        refine ⟨by omega, ?_⟩
        rw [show j - i = (j - (i + 1)) + 1 from by omega, List.getElem?_cons_succ]
        exact h2
    · cases hf
theorem mapOf_ok (H : HR ρ h nx w) {r : Nat} {es : List (AV × AV × Nat)} {c : Nat} (hm : mapOf h r = some (es, c)) :
    h.get r = some (.map es c) ∧ Ses nx es ∧ w.heap[ρ.ι r]? = some (.map (es.map (centry ρ)).toArray c) := by
  unfold mapOf at hm
  split at hm
  · rename_i ob ho
    split at hm
    · cases hm
      obtain ⟨_, h1, h2⟩ := H.obj _ _ ho
      exact ⟨ho, h1, h2⟩
    · cases hm
  · cases hm
theorem run_getObj_map {r : Nat} {es : Array MapEntry} {c : Nat} (hw : w.heap[r]? = some (.map es c)) : (getObj r).run P w = .ok (.map es c) w := by
  simp [getObj, Sem.run, hw]
theorem run_setObj_map {r : Nat} {es : Array MapEntry} {c : Nat} (hw : w.heap[r]? = some (.map es c)) (ob : Obj) : (setObj r ob).run P w = .ok () { w with heap := w.heap.setIfInBounds r ob } := by
  simp [setObj, Sem.run, hw]
theorem okTuple_ok (ok b : Bool) (v : AV) (hv : Sc nx v) : Sc nx (okTuple ok v b) ∧ conc ρ (okTuple ok v b) = if ok then .tuple #[conc ρ v, .bool b] else conc ρ v := by
  cases ok
  · exact ⟨hv, rfl⟩
  · exact ⟨⟨hv, trivial, trivial⟩, by simp [okTuple, conc, concs]⟩
theorem op_lookup (hE : EnvOk E P) (hT : TR ρ nx tm a.tmps) (H : HR ρ h nx w) {t : Nat} {x y : Operand} {ok : Bool} (ho : o.op = .lookup t x y ok) :
    OpOk P ρ h nx w o a (op1 tm x fun m => op1 tm y fun k => oV (lookupV E h t m k ok)) := by
  refine .op1 hT x fun m hm0 hm => .op1 hT y fun k hk0 hk => .oV fun u hu => ?_
  have hexec : execOp a.eval o = (do pure (.value (← Instr.lookup t (conc ρ m) (conc ρ k) ok))) := by simp [execOp, ho, hm, hk]
  unfold lookupV at hu
  split at hu
  · rename_i kt et hd
    have hut := hE.run_und hd w
    have main : ∀ es, Ses nx es → lookupIn E h kt et es k ok = some u → Sc nx u ∧ (∀ e, (Instr.checkKey e 10000 kt (conc ρ k)).run P w = .ok () w) ∧ ∃ r, (Instr.findKey kt (conc ρ k) (es.map (centry ρ))).run P w = .ok r w ∧
        ((∃ i v, r = some (i, v) ∧ conc ρ u = if ok then .tuple #[v, .bool true] else v) ∨ (r = none ∧ ∃ z, (zeroValue et).run P w = .ok z w ∧ conc ρ u = if ok then .tuple #[z, .bool false] else z)) := fun es hes hl => by
      unfold lookupIn at hl
      split at hl
      · rename_i r hr
        have h1 := findKey_ok (P := P) (ρ := ρ) hE H hr
        have h2 := fun e => checkKey_ok (P := P) (ρ := ρ) (w := w) hE (keyOk_of_find hr) e
        split at hl
        · rename_i i v b
          cases hl
          obtain ⟨_, h3⟩ := find_at hr
          have hv : Sc nx v := (hes _ (List.mem_of_getElem? h3)).2
          obtain ⟨h4, h5⟩ := okTuple_ok (ρ := ρ) ok true v hv
          exact ⟨h4, h2, _, h1, .inl ⟨i, conc ρ v, rfl, h5⟩⟩
        · split at hl
          · rename_i z hz
            cases hl
            obtain ⟨hz1, hz2⟩ := hE.run_zero ρ nx hz w
            obtain ⟨h4, h5⟩ := okTuple_ok (ρ := ρ) ok false z hz2
            exact ⟨h4, h2, _, h1, .inr ⟨rfl, conc ρ z, hz1, h5⟩⟩
          · cases hl
      · cases hl
    cases m with
    | nilMap =>
      obtain ⟨h1, h2, r, h3, h4⟩ := main [] (fun _ he => by cases he) hu
      refine .pv' h1 hexec ?_
      have h3 : (Instr.findKey kt (conc ρ k) []).run P w = .ok r w := h3
      rcases h4 with ⟨i, v, rfl, h5⟩ | ⟨rfl, z, hz, h5⟩
      · simp only [Instr.lookup, Sem.run_bind, hut, Result.andThen_ok, conc, Sem.run_pure, h2, h3, h5]
      · simp only [Instr.lookup, Sem.run_bind, hut, Result.andThen_ok, conc, Sem.run_pure, h2, h3, hz, h5]
    | map r =>
      simp only at hu
      split at hu
      · rename_i es c hmo
        obtain ⟨_, g1, g2⟩ := mapOf_ok H hmo
        obtain ⟨h1, h2, r, h3, h4⟩ := main es g1 hu
        refine .pv' h1 hexec ?_
        rcases h4 with ⟨i, v, rfl, h5⟩ | ⟨rfl, z, hz, h5⟩
        · simp only [Instr.lookup, Sem.run_bind, hut, Result.andThen_ok, conc, Sem.run_pure, run_getObj_map g2, h2, h3, h5]
        · simp only [Instr.lookup, Sem.run_bind, hut, Result.andThen_ok, conc, Sem.run_pure, run_getObj_map g2, h2, h3, hz, h5]
      · cases hu
    | _ => cases hu
  · cases hu
end
end Go.Ev
