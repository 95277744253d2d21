import Derived.Test.YtcfmdhkopcijoabGreatDoorEvB
import Derived.Lib.Builder
import Derived.Laws.Tables
import Derived.Deep.Upon
set_option linter.all false
/-! THE EVALUATOR's SOUNDNESS, 8: maps written. -/
namespace Go.Ev
open Go
section
variable {E : Env} {P : Program} {ρ : Rho} {h : Hp} {nx : Nat} {w : World} {o : Oper} {a : Act} {tm : PT AV}

/-- A map's block with other entries. -/
theorem map_put (H : HR ρ h nx w) {r : Nat} {es es' : List (AV × AV × Nat)} {c c' : Nat} (hm : mapOf h r = some (es, c)) (hs : Ses nx es') {w' : World} {ob : Obj}
    (hob : ob = .map (es'.map (centry ρ)).toArray c') (hw : w'.heap = w.heap.setIfInBounds (ρ.ι r) ob) (eo : SameOut w w' := by exact ⟨rfl, rfl⟩) : Step ρ h nx w ρ (h.set r (.map es' c')) nx w' := by
  obtain ⟨h1, h2, h3⟩ := mapOf_ok H hm
  have hlt : ρ.ι r < w.heap.size := (Array.getElem?_eq_some_iff.1 h3).1
  refine H.put h1 _ (by rw [hw]; simp) (fun B hB => by rw [hw]; exact Array.getElem?_setIfInBounds_ne (Ne.symm hB)) (show Ses _ _ ∧ _ from ⟨hs, ?_⟩) eo
  rw [hw, hob]
  simp [hlt]
theorem modAt_eq {α : Type} (f : α → α) : ∀ (l : List α) (i : Nat), modAt f l i = l.modify i f
  | [], i => by cases i <;> rfl
  | x :: l, 0 => rfl
  | x :: l, i + 1 => by simp only [modAt, List.modify_succ_cons, modAt_eq f l i]
theorem remAt_eq {α : Type} : ∀ (l : List α) (i : Nat), remAt l i = l.eraseIdx i
  | [], i => by cases i <;> rfl
  | x :: l, 0 => rfl
  | x :: l, i + 1 => by simp only [remAt, List.eraseIdx_cons_succ, remAt_eq l i]
theorem map_modify {f : AV × AV × Nat → AV × AV × Nat} {g : MapEntry → MapEntry} (hfg : ∀ e, centry ρ (f e) = g (centry ρ e)) (es : List (AV × AV × Nat)) (i : Nat) :
    ((modAt f es i).map (centry ρ)).toArray = (es.map (centry ρ)).toArray.modify i g := by
  apply Array.ext'
  rw [modAt_eq]
  simp only [Array.toList_modify]
  apply List.ext_getElem?
  intro j
  simp only [List.getElem?_map, List.getElem?_modify]
  by_cases hj : i = j <;> (cases es[j]? <;> simp [hj, hfg])
/-- Which key stays: the same one. -/
theorem keyStays_ok (v : Value) : ∃ w', (Instr.keyThatStays v v).run P w = .ok v w' ∧ w'.heap = w.heap ∧ SameOut w w' := by
  unfold Instr.keyThatStays
  split
  · exact ⟨w, rfl, rfl, ⟨rfl, rfl⟩⟩
  · refine ⟨{ w with drawn := w.drawn + 1 }, ?_, rfl, ⟨rfl, rfl⟩⟩
    simp [Question.forced]
theorem mapUpdate_ok (hE : EnvOk E P) (H : HR ρ h nx w) {t : Nat} {m k v : AV} (hk : Sc nx k) (hv : Sc nx v) {h' : Hp} (hu : mapUpdateV E h t m k v = .skip h') :
    ∃ w', Step ρ h nx w ρ h' nx w' ∧ (Instr.mapUpdate t (conc ρ m) (conc ρ k) (conc ρ v)).run P w = .ok () w' := by
  unfold mapUpdateV at hu
  split at hu
  · rename_i kt et hd
    have hut := hE.run_und hd w
    cases m with
    | map r =>
      simp only at hu
      split at hu
      · rename_i es c hmo
        obtain ⟨g0, g1, g2⟩ := mapOf_ok H hmo
        split at hu
        · rename_i f hf
          have h1 := findKey_ok (P := P) (ρ := ρ) hE H hf
          have h2 := fun e => checkKey_ok (P := P) (ρ := ρ) (w := w) hE (keyOk_of_find hf) e
          split at hu
          · rename_i i v0 b
            cases hu
            obtain ⟨_, h3⟩ := find_at hf
            have hkey : (((es.map (centry ρ)).toArray[i]?).map (·.key)).getD (conc ρ k) = conc ρ k := by
              have h3' : es[i]? = some (k, v0, b) := h3
              simp [h3', centry]
            obtain ⟨w1, hw1, hw2, hw3⟩ := keyStays_ok (P := P) (w := w) (conc ρ k)
            have hs : Ses nx (modAt (fun e => (k, v, e.2.2)) es i) := fun e he => by
              rw [modAt_eq] at he
              obtain ⟨j, hj⟩ := List.getElem?_of_mem he
              rw [List.getElem?_modify] at hj
              cases hej : es[j]? with
              | none => rw [hej] at hj; cases hj
              | some e0 =>
                rw [hej] at hj
                simp only [Option.map_some, Option.some.injEq, Functor.map] at hj
                split at hj
                · subst hj; exact ⟨hk, hv⟩
                · subst hj; exact g1 _ (List.mem_of_getElem? hej)
            have hmm := map_modify (ρ := ρ) (f := fun e => (k, v, e.2.2)) (g := fun e => { e with key := conc ρ k, val := conc ρ v }) (fun e => rfl) es i
            refine ⟨{ w1 with heap := w1.heap.setIfInBounds (ρ.ι r) (.map ((es.map (centry ρ)).toArray.modify i fun e => { e with key := conc ρ k, val := conc ρ v }) c) }, ?_, ?_⟩
            · refine map_put H hmo hs (c' := c) (congrArg (fun x => Obj.map x c) hmm.symm) ?_ hw3
              show w1.heap.setIfInBounds _ _ = _
              rw [hw2]
            · have g3 : w1.heap[ρ.ι r]? = some (.map (es.map (centry ρ)).toArray c) := by rw [hw2]; exact g2
              simp only [Instr.mapUpdate, Sem.run_bind, hut, Result.andThen_ok, conc, run_getObj_map g2, h2, h1, found, Option.map_some, hkey, hw1, run_setObj_map g3]
          · cases hu
            have hs : Ses nx (es ++ [(k, v, c)]) := fun e he => by
              rcases List.mem_append.1 he with he | he
              · exact g1 e he
              · simp only [List.mem_singleton] at he; subst he; exact ⟨hk, hv⟩
            refine ⟨{ w with heap := w.heap.setIfInBounds (ρ.ι r) (.map ((es.map (centry ρ)).toArray.push { key := conc ρ k, val := conc ρ v, born := c }) (c + 1)) }, ?_, ?_⟩
            · refine map_put H hmo hs (c' := c + 1) ?_ rfl
              simp [centry]
            · simp only [Instr.mapUpdate, Sem.run_bind, hut, Result.andThen_ok, conc, run_getObj_map g2, h2, h1, found, Option.map_none, run_setObj_map g2]
        · cases hu
      · cases hu
    | _ => cases hu
  · cases hu
theorem mapUpdate_skip {E : Env} {h : Hp} {t : Nat} {m k v : AV} : (∃ h', mapUpdateV E h t m k v = .skip h') ∨ mapUpdateV E h t m k v = .fail := by
  unfold mapUpdateV
  repeat' split
  all_goals first | exact .inr rfl | exact .inl ⟨_, rfl⟩
theorem op_mapUpdate (hE : EnvOk E P) (hT : TR ρ nx tm a.tmps) (H : HR ρ h nx w) {t : Nat} {x y z : Operand} (ho : o.op = .mapUpdate t x y z ∨ o.op = .insert t x y z) :
    OpOk P ρ h nx w o a (op1 tm x fun m => op1 tm y fun k => op1 tm z fun v => mapUpdateV E h t m k v) := by
  refine .op1 hT x fun m _ hm => .op1 hT y fun k hk0 hk => .op1 hT z fun v hv0 hv => ?_
  rcases mapUpdate_skip (E := E) (h := h) (t := t) (m := m) (k := k) (v := v) with ⟨h', hs⟩ | hs
  · rw [hs]
    obtain ⟨w', st, hr⟩ := mapUpdate_ok (P := P) hE H hk0 hv0 hs
    refine .skip' st (s := Instr.mapUpdate t (conc ρ m) (conc ρ k) (conc ρ v)) ?_ hr
    rcases ho with ho | ho <;> simp [execOp, ho, hm, hk, hv]
  · rw [hs]; trivial
theorem op_mapEntry (hE : EnvOk E P) (hT : TR ρ nx tm a.tmps) (H : HR ρ h nx w) {t : Nat} {x y : Operand} (ho : o.op = .mapEntry t x y) :
    OpOk P ρ h nx w o a (op1 tm x fun m => op1 tm y fun k => mapEntryV E h nx t m k) := by
  refine .op1 hT x fun m _ hm => .op1 hT y fun k hk0 hk => ?_
  have hexec : execOp a.eval o = (do pure (.value (← Instr.mapEntry t (conc ρ m) (conc ρ k)))) := by simp [execOp, ho, hm, hk]
  unfold mapEntryV
  split
  · rename_i kt et hd
    have hut := hE.run_und hd w
    cases m with
    | map r =>
      simp only
      split
      · rename_i es c hmo
        obtain ⟨g0, g1, g2⟩ := mapOf_ok H hmo
        split
        · rename_i f hf
          have h1 := findKey_ok (P := P) (ρ := ρ) hE H hf
          have h2 := fun e => checkKey_ok (P := P) (ρ := ρ) (w := w) hE (keyOk_of_find hf) e
          split
          · rename_i i v0 b
            obtain ⟨_, h3⟩ := find_at hf
            have h3' : es[i]? = some (k, v0, b) := h3
            have hkey : (((es.map (centry ρ)).toArray[i]?).map (·.key)).getD (conc ρ k) = conc ρ k := by simp [h3', centry]
            have hborn : (((es.map (centry ρ)).toArray[i]?).map (fun x => (x.born : Int))).getD 0 = (b : Int) := by simp [h3', centry]
            obtain ⟨w1, hw1, hw2, hw3⟩ := keyStays_ok (P := P) (w := w) (conc ρ k)
            have hs : Ses nx (modAt (fun e => (k, e.2)) es i) := fun e he => by
              rw [modAt_eq] at he
              obtain ⟨j, hj⟩ := List.getElem?_of_mem he
              rw [List.getElem?_modify] at hj
              cases hej : es[j]? with
              | none => rw [hej] at hj; cases hj
              | some e0 =>
                rw [hej] at hj
                simp only [Option.map_some, Option.some.injEq, Functor.map] at hj
                have := g1 _ (List.mem_of_getElem? hej)
                split at hj
                · subst hj; exact ⟨hk0, this.2⟩
                · subst hj; exact this
            have hmm := map_modify (ρ := ρ) (f := fun e => (k, e.2)) (g := fun e => { e with key := conc ρ k }) (fun e => rfl) es i
            have hv0 : Sc nx v0 := (g1 _ (List.mem_of_getElem? h3')).2
            have st : Step ρ h nx w ρ (h.set r (.map (modAt (fun e => (k, e.2)) es i) c)) nx { w1 with heap := w1.heap.setIfInBounds (ρ.ι r) (.map ((es.map (centry ρ)).toArray.modify i fun e => { e with key := conc ρ k }) c) } := by
              refine map_put H hmo hs (c' := c) (congrArg (fun x => Obj.map x c) hmm.symm) ?_ hw3
              show w1.heap.setIfInBounds _ _ = _
              rw [hw2]
            have g3 : w1.heap[ρ.ι r]? = some (.map (es.map (centry ρ)).toArray c) := by rw [hw2]; exact g2
            refine .val' st ⟨hv0, trivial, trivial⟩ hexec ?_
            simp only [Instr.mapEntry, Sem.run_bind, hut, Result.andThen_ok, conc, run_getObj_map g2, h2, h1, found, Option.map_some, hkey, hborn, hw1, run_setObj_map g3, Sem.run_pure, concs, goInt]
            rfl
          · split
            · rename_i z hz
              obtain ⟨hz1, hz2⟩ := hE.run_zero ρ nx hz w
              have hs : Ses nx (es ++ [(k, z, c)]) := fun e he => by
                rcases List.mem_append.1 he with he | he
                · exact g1 e he
                · simp only [List.mem_singleton] at he; subst he; exact ⟨hk0, hz2⟩
              have st : Step ρ h nx w ρ (h.set r (.map (es ++ [(k, z, c)]) (c + 1))) nx { w with heap := w.heap.setIfInBounds (ρ.ι r) (.map ((es.map (centry ρ)).toArray.push { key := conc ρ k, val := conc ρ z, born := c }) (c + 1)) } :=
                map_put H hmo hs (c' := c + 1) (by simp [centry]) rfl
              refine .val' st ⟨hz2, trivial, trivial⟩ hexec ?_
              simp only [Instr.mapEntry, Sem.run_bind, hut, Result.andThen_ok, conc, run_getObj_map g2, h2, h1, found, Option.map_none, hz1, run_setObj_map g2, Sem.run_pure, concs, goInt]
              rfl
            · trivial
        · trivial
      · trivial
    | _ => trivial
  · trivial
theorem findBorn_ok (n : Nat) : ∀ (es : List (AV × AV × Nat)) (i j : Nat), findBorn n es i = some j → i ≤ j ∧ (es.map (centry ρ)).findIdx? (fun e => (e.born : Int) == (n : Int)) = some (j - i) ∧ ∃ e, es[j - i]? = some e ∧ e.2.2 = n
  | [], i, j, hf => by cases hf
  | e :: es, i, j, hf => by
    simp only [findBorn] at hf
    split at hf
    · rename_i hb
      have hb : e.2.2 = n := Nat.eq_of_beq_eq_true hb
      cases hf
      exact ⟨Nat.le_refl _, by simp [List.findIdx?_cons, centry, hb], e, by simp, hb⟩
    · rename_i hb
      have hb : e.2.2 ≠ n := fun e' => by rw [e'] at hb; simp at hb
      obtain ⟨h1, h2, e', h3, h4⟩ := findBorn_ok n es (i + 1) j hf
      refine ⟨by omega, ?_, e', ?_, h4⟩
      · rw [List.map_cons, List.findIdx?_cons]
        have : ((centry ρ e).born : Int) ≠ (n : Int) := fun h => hb (Int.ofNat.inj h)
        simp only [beq_iff_eq, this, if_false, h2]
        simp; omega
      · rw [show j - i = (j - (i + 1)) + 1 from by omega, List.getElem?_cons_succ]; exact h3
theorem op_entryStore (hT : TR ρ nx tm a.tmps) (H : HR ρ h nx w) {t : Nat} {x y z : Operand} (ho : o.op = .entryStore t x y z) :
    OpOk P ρ h nx w o a (op1 tm x fun m => op1 tm y fun st => op1 tm z fun v => entryStoreV h m st v) := by
  refine .op1 hT x fun m _ hm => .op1 hT y fun k _ hk => .op1 hT z fun v hv0 hv => ?_
  have hexec : execOp a.eval o = (do Instr.entryStore t (conc ρ m) (conc ρ k) (conc ρ v); pure .skip) := by simp [execOp, ho, hm, hk, hv]
  cases m with
  | map r =>
    simp only [entryStoreV]
    split
    · rename_i es c hmo
      obtain ⟨g0, g1, g2⟩ := mapOf_ok H hmo
      split
      · rename_i b hb
        obtain ⟨kk, rfl⟩ := asNat_ok hb
        split
        · rename_i i hi
          obtain ⟨_, h2, e0, h3, h4⟩ := findBorn_ok (ρ := ρ) b es 0 i hi
          have h2' : (es.map (centry ρ)).toArray.findIdx? (fun e => (e.born : Int) == (b : Int)) = some i := by simpa using h2
          have hs : Ses nx (modAt (fun e => (e.1, v, e.2.2)) es i) := fun e he => by
            rw [modAt_eq] at he
            obtain ⟨j, hj⟩ := List.getElem?_of_mem he
            rw [List.getElem?_modify] at hj
            cases hej : es[j]? with
            | none => rw [hej] at hj; cases hj
            | some e0 =>
              rw [hej] at hj
              simp only [Option.map_some, Option.some.injEq, Functor.map] at hj
              have := g1 _ (List.mem_of_getElem? hej)
              split at hj
              · subst hj; exact ⟨this.1, hv0⟩
              · subst hj; exact this
          have hmm := map_modify (ρ := ρ) (f := fun e => (e.1, v, e.2.2)) (g := fun e => { e with val := conc ρ v }) (fun e => rfl) es i
          have st : Step ρ h nx w ρ (h.set r (.map (modAt (fun e => (e.1, v, e.2.2)) es i) c)) nx { w with heap := w.heap.setIfInBounds (ρ.ι r) (.map ((es.map (centry ρ)).toArray.modify i fun e => { e with val := conc ρ v }) c) } :=
            map_put H hmo hs (c' := c) (congrArg (fun x => Obj.map x c) hmm.symm) rfl
          refine .skip' st hexec ?_
          simp only [Instr.entryStore, Sem.run_bind, Result.andThen_ok, conc, run_getObj_map g2, asInt, asIntOf, Sem.run_pure]
          simp only [Int.ofNat_eq_natCast, h2', run_setObj_map g2]
        · trivial
      · trivial
    · trivial
  | _ => trivial
end
end Go.Ev
/-! THE EVALUATOR's SOUNDNESS, 9: iterators, assertions, parts, conversions. -/
namespace Go.Ev
open Go
section
variable {E : Env} {P : Program} {ρ : Rho} {h : Hp} {nx : Nat} {w : World} {o : Oper} {a : Act} {tm : PT AV}

theorem op_range (hE : EnvOk E P) (hT : TR ρ nx tm a.tmps) (H : HR ρ h nx w) {t : Nat} {x : Operand} (ho : o.op = .range t x) :
    OpOk P ρ h nx w o a (op1 tm x fun x => rangeV E h nx t x) := by
  refine .op1 hT x fun v hv0 hv => ?_
  have hexec : execOp a.eval o = (do pure (.value (← Instr.range t (conc ρ v)))) := by simp [execOp, ho, hv]
  have new' : ∀ (ao : AO) (ob : Obj), ORel (ρ.upd nx w.heap.size 0 0) (nx + 1) nx ao { w with heap := w.heap.push ob } → (Instr.range t (conc ρ v)).run P w = .ok (.pointer (some ⟨w.heap.size, 0, none⟩)) { w with heap := w.heap.push ob } →
      OpOk P ρ h nx w o a (.val (.ptr nx 0) (h.set nx ao) (Nat.succ nx)) := fun ao ob h1 h2 =>
    .val' (H.new ob ao 0 0 h1) (Nat.lt_succ_self _) hexec (by rw [h2, conc_ptr_new])
  unfold rangeV
  split
  · rename_i hd
    have hu := hE.run_und hd w
    cases v with
    | str l n =>
      refine new' (.strIter l n 0) (.stringIter (toBA l n) 0) (show _ ∧ _ from ⟨by simp, by simp⟩) ?_
      simp only [Instr.range, Sem.run_bind, hu, Result.andThen_ok, conc, Sem.run_pure, run_newObj]
    | _ => trivial
  · rename_i k e hd
    have hu := hE.run_und hd w
    cases v with
    | nilMap =>
      refine new' (.mapIter none 0 [] 0) (.mapIter none 0 #[] 0) (show _ ∧ (∀ r, _ → _) ∧ _ from ⟨by simp, (fun r hr => by cases hr), by simp⟩) ?_
      simp only [Instr.range, Sem.run_bind, hu, Result.andThen_ok, conc, Sem.run_pure, run_newObj]
    | map m =>
      simp only
      split
      · rename_i es c hmo
        obtain ⟨g0, g1, g2⟩ := mapOf_ok H hmo
        have hlt : m < nx := hv0
        refine new' (.mapIter (some m) c [] c) (.mapIter (some (ρ.ι m)) c #[] c) (show _ ∧ (∀ r, _ → _) ∧ _ from ⟨by simp, (fun r hr => by cases hr; exact Nat.lt_succ_of_lt hlt), ?_⟩) ?_
        · simp [(Ext.upd ρ nx w.heap.size 0 0).ι m hlt]
        · simp only [Instr.range, Sem.run_bind, hu, Result.andThen_ok, conc, run_getObj_map g2, Sem.run_pure, run_newObj]
      · trivial
    | _ => trivial
  · trivial
theorem op_typeAssert (hE : EnvOk E P) (hT : TR ρ nx tm a.tmps) {t u : Nat} {x : Operand} {ok : Bool} (ho : o.op = .typeAssert x t u ok) :
    OpOk P ρ h nx w o a (op1 tm x fun x => typeAssertV E x u ok) := by
  refine .op1 hT x fun v hv0 hv => ?_
  have hexec : execOp a.eval o = (do pure (.value (← Instr.typeAssert (conc ρ v) t u ok))) := by simp [execOp, ho, hv]
  cases hd : E.und u with
  | none => unfold typeAssertV; rw [hd]; trivial
  | some d =>
    have hu := hE.run_und hd w
    have zeroCase : ok = true → (∀ z, (zeroValue u).run P w = .ok z w → (Instr.typeAssert (conc ρ v) t u true).run P w = .ok (.tuple #[z, .bool false]) w) →
        OpOk P ρ h nx w o a (match zero E u with | some z => .pv (.tuple [z, .bool false]) | none => .fail) := fun hok hz => by
      cases hzz : zero E u with
      | none => trivial
      | some z =>
        obtain ⟨hz1, hz2⟩ := hE.run_zero ρ nx hzz w
        refine .pv' (v := .tuple [z, .bool false]) ⟨hz2, trivial, trivial⟩ hexec ?_
        rw [hok, hz _ hz1]
        simp [conc, concs]
    have nonI : (∃ ms, d = .interface ms) ∨ ∀ ms, d ≠ .interface ms := by
      cases d <;> first | exact .inl ⟨_, rfl⟩ | exact .inr fun _ e => by cases e
    rcases nonI with ⟨ms, rfl⟩ | hd'
    · unfold typeAssertV; rw [hd]; trivial
    have e0 : typeAssertV E v u ok = typeAssertTo E v u ok := by
      unfold typeAssertV
      rw [hd]
      cases d <;> first | exact absurd rfl (hd' _) | rfl
    rw [e0]
    cases v with
    | iface t' v' =>
      simp only [typeAssertTo]
      by_cases hb : t' = u
      · have hb' : Nat.beq t' u = true := by rw [hb]; simp
        rw [hb']
        obtain ⟨h1, h2⟩ := okTuple_ok (ρ := ρ) ok true v' hv0
        refine .pv' h1 hexec ?_
        rw [h2]
        cases d <;> first
          | exact absurd rfl (hd' _)
          | (cases ok <;> simp [Instr.typeAssert, hu, conc, hb])
      · have hb' : Nat.beq t' u = false := by
          cases hq : Nat.beq t' u
          · rfl
          · exact absurd (Nat.eq_of_beq_eq_true hq) hb
        rw [hb']
        cases hok : ok with
        | false => trivial
        | true =>
          refine zeroCase hok fun z hz => ?_
          cases d <;> first
            | exact absurd rfl (hd' _)
            | simp [Instr.typeAssert, hu, conc, hb, hz]
    | nilIface =>
      simp only [typeAssertTo]
      cases hok : ok with
      | false => trivial
      | true =>
        refine zeroCase hok fun z hz => ?_
        cases d <;> first
          | exact absurd rfl (hd' _)
          | simp [Instr.typeAssert, hu, conc, hz]
    | _ => trivial
theorem op_extract (hT : TR ρ nx tm a.tmps) {x : Operand} {i : Nat} (ho : o.op = .extract x i) : OpOk P ρ h nx w o a (op1 tm x fun t => extractV t i) := by
  refine .op1 hT x fun v hv0 hv => ?_
  cases v with
  | tuple vs =>
    refine .oV fun u hu => ?_
    have hu : vs[i]? = some u := by simpa using hu
    refine ⟨Scs_iff.1 hv0 u (List.mem_of_getElem? hu), ?_⟩
    have : (concs ρ vs).toArray[i]? = some (conc ρ u) := by simp [concs_get, hu]
    simp [execOp, ho, hv, conc, Instr.extract, this]
  | _ => trivial
theorem bytesToStr_ok (hE : EnvOk E P) (H : HR ρ h nx w) {src dst e b i l c : Nat} (hs : E.und src = some (.slice e)) (he : isU8 E e = true) (hd : E.und dst = some .string) {u : AV} (hu : bytesToStr h b i l = .pv u) :
    Sc nx u ∧ (convert src dst (.slice (some (ρ.at b i)) l c)).run P w = .ok (conc ρ u) w := by
  unfold bytesToStr at hu
  split at hu
  · rename_i cs hcs
    split at hu
    · rename_i n hn
      cases hu
      have he' : P.underlying e = some (.int .u8) := by
        unfold isU8 at he
        split at he
        · rename_i h1; exact hE.und h1
        · cases he
      obtain ⟨h1, h2, h3⟩ := cells_of H hcs
      have h4 := natOfBytes_conc ρ cs n hn
      refine ⟨trivial, ?_⟩
      have := run_convert_bytes_back (P := P) w src dst e (ρ.at b i) c (bytesL l n) (hE.und hs) he' (hE.und hd) (fun j hj => by
        rw [at_add]
        refine h3 j _ ?_
        rw [h4, h1, List.getElem?_map, List.getElem?_eq_getElem hj]; rfl)
      simpa [conc, toBA] using this
    · cases hu
  · cases hu
theorem bytesToStr_pv {h : Hp} {b i l : Nat} : (∃ u, bytesToStr h b i l = .pv u) ∨ bytesToStr h b i l = .fail := by
  unfold bytesToStr
  repeat' split
  all_goals first | exact .inr rfl | exact .inl ⟨_, rfl⟩
theorem bytesRow_size (s : ByteArray) (w : World) (e : Nat) : (bytesRow s (grownCap w s.size 0 e)).size = grownCap w s.size 0 e := by
  have := grownCap_ge w s.size 0 e
  unfold bytesRow
  rw [Array.size_append, Array.size_map, Array.size_replicate]
  show s.size + _ = _
  omega
theorem bytesRow_get (ρ : Rho) (l n c i : Nat) (v : AV) (hi : i < l) (hv : (bytesOf l n)[i]? = some v) : (bytesRow (toBA l n) c)[i]? = some (conc ρ v) := by
  have h1 := congrArg (fun x => x[i]?) (bytesOf_conc ρ l n)
  simp only [concs_get, hv, Option.map_some, List.getElem?_map] at h1
  have hi' : i < (bytesL l n).length := by rw [bytesL_length]; exact hi
  rw [List.getElem?_eq_getElem hi'] at h1
  have h2 := bytesRow_at (toBA l n) c i (by show i < (bytesL l n).toArray.size; simpa using hi')
  rw [h2]
  simp only [Option.map_some, Option.some.injEq] at h1
  rw [h1]
  simp [toBA]
theorem isU8_ok (hE : EnvOk E P) {e : Nat} (he : isU8 E e = true) : P.underlying e = some (.int .u8) := by
  unfold isU8 at he
  split at he
  · rename_i h1; exact hE.und h1
  · cases he
theorem toStr_ok (hE : EnvOk E P) (H : HR ρ h nx w) {src dst : Nat} {u : TypeDesc} {x y : AV} (hs : E.und src = some u) (hd : E.und dst = some .string) (hy : toStrV E h u x = .pv y) :
    Sc nx y ∧ (convert src dst (conc ρ x)).run P w = .ok (conc ρ y) w := by
  unfold toStrV at hy
  split at hy
  · rename_i e
    split at hy
    · rename_i he
      have he' : (underlying e).run P w = .ok (.int .u8) w := by simp [underlying, isU8_ok hE he]
      cases x with
      | nilSlice =>
        cases hy
        refine ⟨trivial, ?_⟩
        simp only [convert, Sem.run_bind, hE.run_und hs, hE.run_und hd, Result.andThen_ok, conc, he', Conv.bytesToString, Sem.run_pure]
        rfl
      | slice b i l c => exact bytesToStr_ok (c := c) hE H hs he hd hy
      | sliceU b i l c => exact bytesToStr_ok (c := ρ.cap b i c) hE H hs he hd hy
      | _ => cases hy
    · cases hy
  · cases hy
theorem toStr_pv {E : Env} {h : Hp} {u : TypeDesc} {x : AV} : (∃ y, toStrV E h u x = .pv y) ∨ toStrV E h u x = .fail := by
  unfold toStrV
  repeat' split
  all_goals first | exact .inr rfl | exact .inl ⟨_, rfl⟩ | exact bytesToStr_pv
theorem rowAt_mono (P : Program) (fits : TypeId → Bool) {count count' off n : Nat} (hc : count ≤ count') : ∀ {d e : Nat}, rowAt P fits d e count off n = true → rowAt P fits d e count' off n = true
  | 0, e, h => by simp [rowAt] at h
  | d + 1, e, h => by
    unfold rowAt at h ⊢
    by_cases hs : P.cellsOf e = 0
    · simp [hs] at h
    · simp only [hs, if_false, Bool.or_eq_true, Bool.and_eq_true] at h ⊢
      rcases h with ⟨⟨h1, h2⟩, h3⟩ | ⟨h1, h2⟩
      · exact .inl ⟨⟨h1, by simp at h2 ⊢; omega⟩, h3⟩
      · exact .inr ⟨by simp at h1 ⊢; omega, h2⟩
theorem liesAt_mono (P : Program) {count count' off : Nat} (hc : count ≤ count') : ∀ {d e u n : Nat}, liesAt P d e count off u n = true → liesAt P d e count' off u n = true
  | 0, e, u, n, h => by simp [liesAt] at h
  | d + 1, e, u, n, h => by
    unfold liesAt at h ⊢
    simp only [Bool.or_eq_true] at h ⊢
    rcases h with h | h
    · exact .inl (rowAt_mono P _ hc h)
    · refine .inr ?_
      split at h
      · exact liesAt_mono P hc h
      · cases h
theorem size_ok {E : Env} {P : Program} (hE : EnvOk E P) {t n : Nat} (h : E.size t = some n) : ∃ j, P.info? t = some j ∧ j.size = n := by
  unfold Env.size at h
  split at h
  · rename_i i hi; cases h; exact ⟨i, hE.types t i hi, rfl⟩
  · cases h
theorem op_convert (hE : EnvOk E P) (hT : TR ρ nx tm a.tmps) (H : HR ρ h nx w) {src dst : Nat} {x : Operand} (ho : o.op = .convert src dst x) :
    OpOk P ρ h nx w o a (op1 tm x fun x => convertV E h nx src dst x) := by
  refine .op1 hT x fun v hv0 hv => ?_
  have hexec : execOp a.eval o = (do pure (.value (← convert src dst (conc ρ v)))) := by simp [execOp, ho, hv]
  unfold convertV
  cases hs : E.und src with
  | none => trivial
  | some u =>
  cases hd : E.und dst with
  | none => trivial
  | some d =>
  have hus := hE.run_und hs w
  have hud := hE.run_und hd w
  simp only
  have str : d = .string → OpOk P ρ h nx w o a (toStrV E h u v) := fun e => by
    subst e
    rcases toStr_pv (E := E) (h := h) (u := u) (x := v) with ⟨y, hy⟩ | hy
    · rw [hy]
      obtain ⟨h1, h2⟩ := toStr_ok (P := P) (ρ := ρ) hE H hs hd hy
      exact .pv' h1 hexec h2
    · rw [hy]; trivial
  cases d with
  | int k =>
    cases v with
    | int k' n =>
      obtain ⟨h1, h2⟩ := wrapZ_ok (nx := nx) (ρ := ρ) k n
      refine .pv' h1 hexec ?_
      rw [h2]
      simp only [convert, Sem.run_bind, hus, hud, Result.andThen_ok, conc, Conv.intToInt, Sem.run_pure]
    | _ => trivial
  | string =>
    cases v with
    | str l n => exact .pv' (v := .str l n) trivial hexec (by simp only [convert, Sem.run_bind, hus, hud, Result.andThen_ok, conc, Sem.run_pure])
    | int k z =>
      cases z with
      | negSucc m => trivial
      | ofNat n =>
        show OpOk P ρ h nx w o a (match Nat.blt n 128 with | true => .pv (.str 1 n) | false => .fail)
        cases hlt : Nat.blt n 128 with
        | false => trivial
        | true =>
          have hlt : n < 128 := Nat.le_of_ble_eq_true hlt
          refine .pv' (v := .str 1 n) trivial hexec ?_
          have hv : Utf8.valid (n : Int) = true := by unfold Utf8.valid; simp; omega
          have he : Utf8.encode (n : Int) = toBA 1 n := by
            unfold Utf8.encode
            rw [hv]
            simp only [if_true, Int.toNat_natCast, if_pos hlt]
            simp [toBA, bytesL, Nat.mod_eq_of_lt (show n < 256 by omega)]
          simp only [convert, Sem.run_bind, hus, hud, Result.andThen_ok, conc, Conv.intToString, Sem.run_pure, Int.ofNat_eq_natCast, he]
    | _ => exact str rfl
  | slice e =>
    cases u with
    | string =>
      cases v with
      | str l n =>
        show OpOk P ρ h nx w o a (match isU8 E e with | true => _ | false => .fail)
        cases he : isU8 E e with
        | false => trivial
        | true =>
          have hrun := run_bytes_of_string (P := P) w src dst e (toBA l n) (hE.und hs) (hE.und hd) (isU8_ok hE he)
          have hsz := bytesRow_size (toBA l n) w e
          rw [hsz] at hrun
          generalize hC : bytesRow (toBA l n) (grownCap w (toBA l n).size 0 e) = C at hrun hsz
          have hle : l ≤ C.size := by
            rw [hsz]; unfold grownCap Question.cut; simp
          have st := new_ok (hz := rfl) H l [] (writeFrom .nil 0 (bytesOf l n)) none e C (C.size, C.size + 1) 0 (by omega) (.inr (Nat.le_refl _)) fun i v hi hv => by
            rw [cellAt_write, if_pos ⟨Nat.zero_le _, by rw [bytesOf_length]; omega⟩, Nat.sub_zero] at hv
            rw [← hC, Nat.zero_add]
            exact ⟨Scs_iff.1 (bytesOf_Scs nx l n) v (List.mem_of_getElem? hv), bytesRow_get ρ l n _ i v hi hv⟩
          refine .val' (st.heapEq (w'' := (w.drew).alloc (.cells C e (C.size, C.size + 1))) rfl) (Nat.lt_succ_self _) hexec ?_
          simp only [conc] at hrun ⊢
          rw [hrun]
          simp [Rho.at, Rho.cap, hsz]
      | _ => trivial
    | _ => trivial
  | unsafePointer =>
    cases u with
    | pointer t =>
      cases v with
      | ptr b i =>
        show OpOk P ρ h nx w o a (match nonzero E t with | true => (match hasCells h b (Nat.succ i) with | true => .pv (.ptr b i) | false => .fail) | false => .fail)
        cases hnz : nonzero E t with
        | false => trivial
        | true =>
          simp only
          cases hh : hasCells h b (Nat.succ i) with
          | false => trivial
          | true =>
            obtain ⟨n, hn⟩ := nonzero_ok hnz
            obtain ⟨j, hj, hjs⟩ := size_ok hE hn
            unfold hasCells at hh
            split at hh
            case h_2 => cases hh
            rename_i q hq
            split at hh
            case h_2 => cases hh
            rename_i m dz tr fz e
            have hm : i + 1 ≤ m := Nat.le_of_ble_eq_true hh
            obtain ⟨hlt, c, fr, k1, k2, k3, k4, k5⟩ := H.obj _ _ hq
            refine .pv' (v := .ptr b i) hv0 hexec ?_
            exact Lib.run_to_unsafe w (ρ.at b i) (hE.und hs) (hE.und hd) hj (by omega) (e := e) (cells := c.size) (by simp [World.shape?, Rho.at, k1]) (by show ρ.β b + i < c.size; omega)
      | _ => trivial
    | _ => trivial
  | pointer t =>
    cases u with
    | unsafePointer =>
      cases v with
      | ptr b i =>
        show OpOk P ρ h nx w o a (match E.size t with | some _ => (match rowIs E h b i t with | true => .pv (.ptr b i) | false => .fail) | none => .fail)
        cases hz : E.size t with
        | none => trivial
        | some zt =>
          simp only
          cases hr : rowIs E h b i t with
          | false => trivial
          | true =>
            unfold rowIs at hr
            split at hr
            case h_2 => cases hr
            rename_i q hq
            split at hr
            case h_2 => cases hr
            rename_i m dz tr fz e
            split at hr
            case h_2 => cases hr
            rename_i he
            split at hr
            case h_2 => cases hr
            rename_i z hze
            split at hr
            · cases hr
            rename_i z
            have hm : (i / (z + 1) + 1) * (z + 1) ≤ m := Nat.le_of_ble_eq_true hr
            obtain ⟨hlt, c, fr, k1, k2, k3, k4, k5⟩ := H.obj _ _ hq
            obtain ⟨j, hj, hjs⟩ := size_ok hE hz
            obtain ⟨j', hj', hjs'⟩ := size_ok hE hze
            have hcs : P.cellsOf e = z + 1 := by unfold Program.cellsOf; rw [hj']; exact hjs'
            have hl := hE.lies e i t he
            rw [hcs] at hl
            refine .pv' (v := .ptr b i) hv0 hexec ?_
            have h0 : ρ.at b i = ⟨ρ.ι b, i, none⟩ := by unfold Rho.at; rw [ρ.zero, Nat.zero_add]
            refine Lib.run_from_unsafe w (ρ.at b i) (hE.und hs) (hE.und hd) hj (e := e) (cells := c.size) (by simp [World.shape?, Rho.at, k1]) ?_
            rw [h0]
            refine liesAt_mono P ?_ hl
            rw [hcs]
            exact (Nat.le_div_iff_mul_le (by omega)).2 (by omega)
      | _ => trivial
    | _ => trivial
  | _ => trivial
end
end Go.Ev
/-! THE EVALUATOR's SOUNDNESS, 10: the built-in functions that are small. -/
namespace Go.Ev
open Go
section
variable {E : Env} {P : Program} {ρ : Rho} {h : Hp} {nx : Nat} {w : World} {o : Oper} {a : Act} {tm : PT AV}

theorem conc_rI (ρ : Rho) (n : Nat) : conc ρ (rI n) = goInt n := rfl
theorem len_ok (hE : EnvOk E P) (H : HR ρ h nx w) {ts : Array TypeId} {t ty : Nat} {x y : AV} (ht : ts[0]? = some t) (hl : lenV E h t x = some y) :
    Sc nx y ∧ (Builtin.len_ ts ty #[conc ρ x]).run P w = .ok (conc ρ y) w := by
  unfold lenV at hl
  split at hl
  · rename_i d hd
    have hu := hE.run_und hd w
    unfold lenD at hl
    cases d with
    | string =>
      cases x with
      | str l n => cases hl; exact ⟨trivial, by simp [Builtin.len_, ht, hu, conc, conc_rI]⟩
      | _ => cases hl
    | slice e =>
      cases x with
      | slice b i l c => cases hl; exact ⟨trivial, by simp [Builtin.len_, ht, hu, conc, conc_rI]⟩
      | sliceU b i l c => cases hl; exact ⟨trivial, by simp [Builtin.len_, ht, hu, conc, conc_rI]⟩
      | sliceZ b i l c => cases hl; exact ⟨trivial, by simp [Builtin.len_, ht, hu, conc, conc_rI]⟩
      | nilSlice => cases hl; exact ⟨trivial, by simp [Builtin.len_, ht, hu, conc, conc_rI]⟩
      | _ => cases hl
    | map k e =>
      cases x with
      | nilMap => cases hl; exact ⟨trivial, by simp [Builtin.len_, ht, hu, conc, conc_rI]⟩
      | map m =>
        simp only at hl
        split at hl
        · rename_i es c hmo
          cases hl
          obtain ⟨g0, g1, g2⟩ := mapOf_ok H hmo
          exact ⟨trivial, by simp [Builtin.len_, ht, hu, conc, conc_rI, run_getObj_map g2]⟩
        · cases hl
      | _ => cases hl
    | array n e => cases hl; exact ⟨trivial, by simp [Builtin.len_, ht, hu, conc_rI]⟩
    | _ => cases hl
  · cases hl
theorem capD_ok (hE : EnvOk E P) {ts : Array TypeId} {t ty : Nat} {x y : AV} (ht : ts[0]? = some t) (hl : capV E t x = some y) :
    Sc nx y ∧ (Builtin.cap_ ts ty #[conc ρ x]).run P w = .ok (conc ρ y) w := by
  unfold capV at hl
  split at hl
  · rename_i d hd
    have hu := hE.run_und hd w
    unfold capD at hl
    cases d with
    | slice e =>
      cases x with
      | slice b i l c => cases hl; exact ⟨trivial, by simp [Builtin.cap_, ht, hu, conc, conc_rI]⟩
      | nilSlice => cases hl; exact ⟨trivial, by simp [Builtin.cap_, ht, hu, conc, conc_rI]⟩
      | _ => cases hl
    | array n e => cases hl; exact ⟨trivial, by simp [Builtin.cap_, ht, hu, conc_rI]⟩
    | _ => cases hl
  · cases hl
theorem ilt_eq (a b : Int) : ilt a b = decide (a < b) := by
  unfold ilt
  cases a <;> cases b <;> simp [Nat.blt] <;> first | omega | (rw [Bool.eq_iff_iff]; simp; omega)
theorem min_ok {ts : Array TypeId} {ty : Nat} : ∀ {l : List AV} {x y : AV}, Sc nx x → minV x l = some y → Sc nx y ∧ ((concs ρ l).foldlM Builtin.min2 (conc ρ x)).run P w = .ok (conc ρ y) w
  | [], x, y, hx, hm => by
    have hm : some x = some y := by rw [← hm]; cases x <;> rfl
    cases hm; exact ⟨hx, by simp [concs]⟩
  | z :: l, x, y, hx, hm => by
    cases x with
    | int k n =>
      cases z with
      | int k' m =>
        have hm : minV (.int k (match ilt m n with | true => m | false => n)) l = some y := hm
        obtain ⟨h1, h2⟩ := min_ok (ts := ts) (ty := ty) (x := .int k (match ilt m n with | true => m | false => n)) trivial hm
        refine ⟨h1, ?_⟩
        simp only [concs, List.foldlM_cons, Sem.run_bind, conc, Builtin.min2, Sem.run_pure, Result.andThen_ok]
        rw [← h2]
        congr 1
        rw [ilt_eq]
        by_cases hlt : m < n <;> simp [hlt, conc]
      | _ => simp [minV, maxV] at hm
    | _ => simp [minV, maxV] at hm
theorem max_ok {ts : Array TypeId} {ty : Nat} : ∀ {l : List AV} {x y : AV}, Sc nx x → maxV x l = some y → Sc nx y ∧ ((concs ρ l).foldlM Builtin.max2 (conc ρ x)).run P w = .ok (conc ρ y) w
  | [], x, y, hx, hm => by
    have hm : some x = some y := by rw [← hm]; cases x <;> rfl
    cases hm; exact ⟨hx, by simp [concs]⟩
  | z :: l, x, y, hx, hm => by
    cases x with
    | int k n =>
      cases z with
      | int k' m =>
        have hm : maxV (.int k (match ilt n m with | true => m | false => n)) l = some y := hm
        obtain ⟨h1, h2⟩ := max_ok (ts := ts) (ty := ty) (x := .int k (match ilt n m with | true => m | false => n)) trivial hm
        refine ⟨h1, ?_⟩
        simp only [concs, List.foldlM_cons, Sem.run_bind, conc, Builtin.max2, Sem.run_pure, Result.andThen_ok]
        rw [← h2]
        congr 1
        rw [ilt_eq]
        by_cases hlt : n < m <;> simp [hlt, conc]
      | _ => simp [minV, maxV] at hm
    | _ => simp [minV, maxV] at hm
theorem sliceData_some (ts : Array TypeId) (ty : Nat) (ad : Addr) (n c : Nat) (hc : c ≠ 0) : (Builtin.unsafeSliceData_ ts ty #[.slice (some ad) n c]).run P w = .ok (.pointer (some ad)) w := by
  have hdef : Builtin.unsafeSliceData_ ts ty #[.slice (some ad) n c] =
      (do
        if c ≠ 0 then pure (.pointer (some ad))
        else if (← viewAt ad.block).isSome then pure (.pointer (some ad))
        else pure (.pointer (some ⟨← Go.newObj (.view ad (← elemOf ty)), 0, none⟩))) := rfl
  rw [hdef, if_pos hc, Sem.run_pure]
theorem sliceData_ok (H : HR ρ h nx w) {ts : Array TypeId} {ty : Nat} {x y : AV} (hx : Sc nx x) (hs : sliceDataV h x = .pv y) :
    Sc nx y ∧ (Builtin.unsafeSliceData_ ts ty #[conc ρ x]).run P w = .ok (conc ρ y) w := by
  cases x with
  | nilSlice => cases hs; exact ⟨trivial, rfl⟩
  | slice b i l c =>
    cases c with
    | zero => cases hs
    | succ c => cases hs; exact ⟨hx, sliceData_some _ _ _ _ _ (Nat.succ_ne_zero _)⟩
  | sliceU b i l z =>
    cases l with
    | zero => cases hs
    | succ l =>
      cases z with
      | zero => cases hs
      | succ z =>
        simp only [sliceDataV] at hs
        split at hs
        · rename_i hc
          cases hs
          have := cap_le H (Nat.succ_pos z) hc
          exact ⟨hx, sliceData_some _ _ _ _ _ (by show ρ.cap b i (z + 1) ≠ 0; have : l + 1 ≤ ρ.cap b i (z + 1) := this; omega)⟩
        · cases hs
  | _ => cases hs
theorem sliceData_pv {h : Hp} {x : AV} : (∃ y, sliceDataV h x = .pv y) ∨ sliceDataV h x = .fail := by
  unfold sliceDataV
  repeat' split
  all_goals first | exact .inr rfl | exact .inl ⟨_, rfl⟩
theorem map_eraseIdx' {α β : Type} (f : α → β) : ∀ (l : List α) (n : Nat), (l.eraseIdx n).map f = (l.map f).eraseIdx n
  | [], n => by cases n <;> rfl
  | x :: l, 0 => rfl
  | x :: l, n + 1 => by simp [map_eraseIdx' f l]
theorem heap_same {r : Nat} {ob : Obj} (hw : w.heap[r]? = some ob) : { w with heap := w.heap.setIfInBounds r ob } = w := by
  have : w.heap.setIfInBounds r ob = w.heap := by
    apply Array.ext_getElem?
    intro i
    rw [Array.getElem?_setIfInBounds]
    split
    · subst_vars; rw [hw]; rw [(Array.getElem?_eq_some_iff.1 hw).1 |> if_pos]
    · rfl
  rw [this]
theorem delete_ok (hE : EnvOk E P) (H : HR ρ h nx w) {ts : Array TypeId} {t ty : Nat} {m k : AV} (ht : ts[0]? = some t)
    (he : execOp a.eval o = (do pure (.value (← Builtin.delete_ ts ty #[conc ρ m, conc ρ k])))) : OpOk P ρ h nx w o a (deleteV E h nx t m k) := by
  have hundef : conc ρ AV.undef = .tuple #[] := rfl
  unfold deleteV
  split
  · rename_i kt et hd
    have hut := hE.run_und hd w
    cases m with
    | map r =>
      simp only
      split
      · rename_i es c hmo
        obtain ⟨g0, g1, g2⟩ := mapOf_ok H hmo
        split
        · rename_i f hf
          have h1 := findKey_ok (P := P) (ρ := ρ) hE H hf
          have h2 := fun e => checkKey_ok (P := P) (ρ := ρ) (w := w) hE (keyOk_of_find hf) e
          split
          · rename_i i v0 b
            obtain ⟨_, h3⟩ := find_at hf
            have hlt : i < es.length := by have := (List.getElem?_eq_some_iff.1 h3).1; simpa using this
            have hs : Ses nx (remAt es i) := fun e he => g1 e (by rw [remAt_eq] at he; exact List.mem_of_mem_eraseIdx he)
            have st := map_put H hmo hs (w' := { w with heap := w.heap.setIfInBounds (ρ.ι r) (.map (((es.map (centry ρ)).toArray).eraseIdxIfInBounds i) c) }) (c' := c) (ob := .map (((es.map (centry ρ)).toArray).eraseIdxIfInBounds i) c) (by
              congr 1
              rw [remAt_eq, map_eraseIdx']
              simp [Array.eraseIdxIfInBounds, hlt]) rfl
            refine .val' st ⟨⟩ he ?_
            rw [hundef]
            simp [Builtin.delete_, ht, hut, conc, run_getObj_map g2, h2, h1, found, run_setObj_map g2]
          · refine .pv' (v := AV.undef) trivial he ?_
            rw [hundef]
            simp [Builtin.delete_, ht, hut, conc, run_getObj_map g2, h2, h1, found, run_setObj_map g2, heap_same g2]
        · trivial
      · trivial
    | nilMap =>
      simp only
      split
      · rename_i hk
        have h2 := fun e => checkKey_ok (P := P) (ρ := ρ) (w := w) hE hk e
        refine .pv' (v := AV.undef) trivial he ?_
        rw [hundef]
        simp [Builtin.delete_, ht, hut, conc, h2]
      · trivial
    | _ => trivial
  · trivial
theorem repList_length : ∀ (n : Nat) (l : List AV), (repList n l).length = n * l.length
  | 0, l => by simp [repList]
  | n + 1, l => by simp [repList, repList_length n, Nat.succ_mul, Nat.add_comm]
theorem repList_get : ∀ (n : Nat) (l : List AV) (i : Nat), i < n * l.length → (repList n l)[i]? = l[i % l.length]?
  | 0, l, i, h => by omega
  | n + 1, l, i, h => by
    simp only [repList]
    by_cases hi : i < l.length
    · rw [List.getElem?_append_left hi, Nat.mod_eq_of_lt hi]
    · rw [List.getElem?_append_right (by omega), repList_get n l _ (by rw [Nat.succ_mul] at h; omega), Nat.mod_eq_sub_mod (a := i) (by omega)]
theorem zeroCells_concs (ρ : Rho) (l : List AV) (n : Nat) : (Builtin.zeroCells (concs ρ l).toArray n).toList = concs ρ (repList n l) := by
  apply List.ext_getElem?
  intro i
  unfold Builtin.zeroCells
  simp only [Array.toList_map, Array.toList_range, List.getElem?_map, List.size_toArray, concs_length, concs_get]
  by_cases hi : i < n * l.length
  · rw [repList_get n l i hi]
    have hpos : 0 < l.length := Nat.pos_of_ne_zero fun h0 => by rw [h0] at hi; omega
    have hm : i % l.length < l.length := Nat.mod_lt _ hpos
    rw [List.getElem?_range hi]
    simp [concs_get, hm, getElem!_def]
  · rw [List.getElem?_eq_none (by simp; omega), List.getElem?_eq_none (by rw [repList_length]; omega)]
    rfl
theorem clear_ok (hE : EnvOk E P) (H : HR ρ h nx w) {ts : Array TypeId} {t ty : Nat} {x : AV} (ht : ts[0]? = some t)
    (he : execOp a.eval o = (do pure (.value (← Builtin.clear_ ts ty #[conc ρ x])))) : OpOk P ρ h nx w o a (clearV E h nx t x) := by
  have hundef : conc ρ AV.undef = .tuple #[] := rfl
  unfold clearV
  split
  case h_2 => trivial
  rename_i d hd
  have hut := hE.run_und hd w
  have sl : ∀ b i l c, l ≠ 0 → execOp a.eval o = (do pure (.value (← Builtin.clear_ ts ty #[.slice (some (ρ.at b i)) l c]))) → OpOk P ρ h nx w o a (clearS E h nx t b i l) := fun b i l c hl he => by
    unfold clearS
    split
    · rename_i e he2
      split
      · rename_i z hz
        split
        · rename_i h' hs
          have hd' : d = .slice e := by rw [hd] at he2; cases he2; rfl
          subst hd'
          obtain ⟨hz1, hz2⟩ := hE.run_zero ρ nx hz w
          obtain ⟨w', hr, st⟩ := store_ok (P := P) H hs (Scs_iff.2 fun v hv => by
            have : ∀ n, v ∈ repList n z.cells → v ∈ z.cells := fun n => by
              induction n with
              | zero => intro h; cases h
              | succ n ih => intro h; rcases List.mem_append.1 h with h | h; exact h; exact ih h
            exact Scs_iff.1 (cells_Scs hz2) v (this l hv))
          refine .val' st ⟨⟩ he ?_
          rw [hundef]
          obtain ⟨l, rfl⟩ : ∃ k, l = k + 1 := ⟨l - 1, by omega⟩
          simp [Builtin.clear_, ht, hut, hz1, cells_conc, zeroCells_concs, hr]
        · trivial
      · trivial
    · trivial
  unfold clearX
  cases x with
  | nilMap =>
    refine .pv' (v := AV.undef) trivial he ?_
    rw [hundef]; simp [Builtin.clear_, ht, hut, conc]
  | nilSlice =>
    refine .pv' (v := AV.undef) trivial he ?_
    rw [hundef]; simp [Builtin.clear_, ht, hut, conc]
  | map r =>
    simp only
    split
    · rename_i es c hmo
      obtain ⟨g0, g1, g2⟩ := mapOf_ok H hmo
      have st := map_put H hmo (es' := []) (fun e he => by cases he) (w' := { w with heap := w.heap.setIfInBounds (ρ.ι r) (.map #[] c) }) (c' := c) (ob := .map #[] c) (by simp) rfl
      refine .val' st ⟨⟩ he ?_
      rw [hundef]
      simp [Builtin.clear_, ht, hut, conc, run_getObj_map g2, run_setObj_map g2]
    · trivial
  | slice b i l c =>
    cases l with
    | zero => refine .pv' (v := AV.undef) trivial he ?_; rw [hundef]; simp [Builtin.clear_, ht, hut, conc]
    | succ l => exact sl b i _ c (Nat.succ_ne_zero _) he
  | sliceU b i l c =>
    cases l with
    | zero => refine .pv' (v := AV.undef) trivial he ?_; rw [hundef]; simp [Builtin.clear_, ht, hut, conc]
    | succ l => exact sl b i _ (ρ.cap b i c) (Nat.succ_ne_zero _) he
  | _ => trivial
end
end Go.Ev
/-! THE EVALUATOR's SOUNDNESS, 11: struct and slice values out of parts. -/
namespace Go.Ev
open Go
section
variable {E : Env} {P : Program} {ρ : Rho} {h : Hp} {nx : Nat} {w : World} {o : Oper} {a : Act} {tm : PT AV}

theorem over_spec : ∀ {cs : List AV} {i : Nat} {vs r : List AV}, over cs i vs = some r → i + vs.length ≤ cs.length ∧ r.length = cs.length ∧ ∀ j, r[j]? = if i ≤ j ∧ j < i + vs.length then vs[j - i]? else cs[j]?
  | cs, 0, [], r, hr => by
    have hr : some cs = some r := by rw [← hr]; cases cs <;> rfl
    cases hr
    exact ⟨by simp, rfl, fun j => by rw [if_neg (by simp)]⟩
  | [], 0, v :: vs, r, hr => by simp [over] at hr
  | [], n + 1, vs, r, hr => by simp [over] at hr
  | c :: cs, 0, v :: vs, r, hr => by
    simp only [over] at hr
    split at hr
    · rename_i r' hr'
      cases hr
      obtain ⟨h1, h2, h3⟩ := over_spec hr'
      refine ⟨by simp at h1 ⊢; omega, by simp [h2], fun j => ?_⟩
      cases j with
      | zero => rw [if_pos (by simp)]; rfl
      | succ j =>
        rw [List.getElem?_cons_succ, h3 j]
        by_cases hj : j < vs.length
        · rw [if_pos (by omega), if_pos (by simp; omega)]; simp
        · rw [if_neg (by omega), if_neg (by simp; omega)]; simp
    · cases hr
  | c :: cs, n + 1, vs, r, hr => by
    simp only [over] at hr
    split at hr
    · rename_i r' hr'
      cases hr
      obtain ⟨h1, h2, h3⟩ := over_spec hr'
      refine ⟨by simp at h1 ⊢; omega, by simp [h2], fun j => ?_⟩
      cases j with
      | zero => rw [if_neg (by omega)]; rfl
      | succ j =>
        rw [List.getElem?_cons_succ, h3 j, List.getElem?_cons_succ]
        by_cases hj : n ≤ j ∧ j < n + vs.length
        · rw [if_pos hj, if_pos (by omega), show j + 1 - (n + 1) = j - n from by omega]
        · rw [if_neg hj, if_neg (by omega)]
    · cases hr
theorem foldl_setR (off : Nat) : ∀ (l : List Value) (k : Nat) (c : Array Value), (l.zipIdx k).foldl (fun cs (x : Value × Nat) => cs.setIfInBounds (off + x.2) x.1) c = setR c (off + k) l
  | [], k, c => rfl
  | v :: l, k, c => by
    simp only [List.zipIdx_cons, List.foldl_cons, setR]
    rw [foldl_setR off l (k + 1)]
    rfl
theorem over_ok {cs vs r : List AV} {i : Nat} (hr : over cs i vs = some r) : setR (concs ρ cs).toArray i (concs ρ vs) = (concs ρ r).toArray := by
  obtain ⟨h1, h2, h3⟩ := over_spec hr
  apply Array.ext_getElem?
  intro j
  rw [setR_get _ _ _ _ (by simpa using h1)]
  simp only [concs_length, List.getElem?_toArray, concs_get, h3 j]
  split <;> rfl
theorem Scs_of_get {nx : Nat} {l : List AV} (hl : ∀ (j : Nat) (v : AV), l[j]? = some v → Sc nx v) : Scs nx l :=
  Scs_iff.2 fun v hv => let ⟨j, hj⟩ := List.getElem?_of_mem hv; hl j v hj
theorem Scs_get {nx : Nat} {l : List AV} (hl : Scs nx l) {j : Nat} {v : AV} (hj : l[j]? = some v) : Sc nx v := Scs_iff.1 hl v (List.mem_of_getElem? hj)
theorem fill_ok (hT : TR ρ nx tm a.tmps) {place place' : Nat → Option (Nat × Nat)} (hp : ∀ i p, place i = some p → place' i = some p) :
    ∀ {parts : List (Nat × Operand)} {cs r : List AV}, Scs nx cs → fill place tm cs parts = some r →
    Scs nx r ∧ Instr.fill place' (concs ρ cs).toArray (parts.map fun (i, x) => (i, a.eval x)) = some (concs ρ r).toArray
  | [], cs, r, hs, hf => by
    have hf : some cs = some r := hf
    cases hf; exact ⟨hs, rfl⟩
  | (i, x) :: rest, cs, r, hs, hf => by
    simp only [fill] at hf
    split at hf
    case h_2 => cases hf
    rename_i v hv
    split at hf
    case h_2 => cases hf
    rename_i off size hpl
    split at hf
    case h_2 => cases hf
    rename_i hsz
    split at hf
    case h_2 => cases hf
    rename_i c hc
    obtain ⟨hv1, hv2⟩ := evalOp_ok hT hv
    have hsz : v.cells.length = size := by have := Nat.eq_of_beq_eq_true hsz; simpa using this
    obtain ⟨g1, g2, g3⟩ := over_spec hc
    have hsc : Scs nx c := Scs_of_get fun j u hj => by
      rw [g3 j] at hj
      split at hj
      · exact Scs_get (cells_Scs hv1) hj
      · exact Scs_get hs hj
    obtain ⟨h1, h2⟩ := fill_ok hT hp hsc hf
    refine ⟨h1, ?_⟩
    simp only [List.map_cons, Instr.fill, hp _ _ hpl, hv2, cells_conc]
    rw [if_neg (by simp [hsz]; omega), ← h2]
    congr 1
    rw [← Array.foldl_toList, Array.toList_zipIdx]
    have := foldl_setR off (concs ρ v.cells) 0 (concs ρ cs).toArray
    rw [Nat.add_zero, over_ok hc] at this
    simpa using this
theorem placesOf_ok (hE : EnvOk E P) : ∀ {fs : List Field} {ps : List (Nat × Nat)}, placesOf E fs = some ps → fs.mapM (fun f => (P.info? f.type).map fun i => (f.offset, i.size)) = some ps
  | [], ps, h => by
    have h : some [] = some ps := h
    cases h; rfl
  | f :: fs, ps, h => by
    simp only [placesOf] at h
    split at h
    case h_2 => cases h
    rename_i n hn
    split at h
    case h_2 => cases h
    rename_i l hl
    cases h
    have ih := placesOf_ok hE hl
    unfold Env.size at hn
    split at hn
    · rename_i i hi
      cases hn
      simp [List.mapM_cons, hE.types _ _ hi, ih]
    · cases hn
theorem op_build (hE : EnvOk E P) (hT : TR ρ nx tm a.tmps) {t : Nat} {ps : Array (Nat × Operand)} (ho : o.op = .build t ps) : OpOk P ρ h nx w o a (oV (buildV E tm t ps.toList)) := by
  refine .oV fun v hv => ?_
  have hexec : execOp a.eval o = (do pure (.value (← Instr.build t (ps.map fun (i, x) => (i, a.eval x))))) := by simp [execOp, ho]
  unfold buildV at hv
  split at hv
  case h_2 => cases hv
  rename_i z hz
  obtain ⟨hz1, hz2⟩ := hE.run_zero ρ nx hz w
  split at hv
  · rename_i fs hd
    have hu := hE.run_und hd w
    split at hv
    case h_2 => cases hv
    rename_i pl hpl
    split at hv
    case h_2 => cases hv
    rename_i c hc
    cases hv
    obtain ⟨h1, h2⟩ := fill_ok (place' := fun i => pl[i]?) hT (fun i p hp => by simpa using hp) (cells_Scs hz2) hc
    refine .pv' (v := .agg c) h1 hexec ?_
    have h3 := run_places (P := P) w _ _ (placesOf_ok hE hpl)
    have h2' : Instr.fill (fun x => pl[x]?) (concs ρ z.cells).toArray (List.map (fun x => (x.fst, a.eval x.snd)) ps.toList) = some (concs ρ c).toArray := h2
    simp [Instr.build, hz1, cells_conc, hu, Array.mapM_eq_mapM_toList, h3, h2', conc]
  · rename_i n e hd
    have hu := hE.run_und hd w
    split at hv
    case h_2 => cases hv
    rename_i m hm
    split at hv
    case h_2 => cases hv
    rename_i c hc
    cases hv
    obtain ⟨h1, h2⟩ := fill_ok (place' := fun i => some (i * m, m)) hT (fun i p hp => hp) (cells_Scs hz2) hc
    refine .pv' (v := .agg c) h1 hexec ?_
    have h2' : Instr.fill (fun i => some (i * m, m)) (concs ρ z.cells).toArray (List.map (fun x => (x.fst, a.eval x.snd)) ps.toList) = some (concs ρ c).toArray := h2
    simp [Instr.build, hz1, cells_conc, hu, hE.run_size hm, h2', conc]
  · cases hv
theorem op_buildSlice (hE : EnvOk E P) (hT : TR ρ nx tm a.tmps) (H : HR ρ h nx w) {t n : Nat} {ps : Array (Nat × Operand)} (ho : o.op = .buildSlice t n ps) :
    OpOk P ρ h nx w o a (buildSliceV E tm h nx t n ps.toList) := by
  have hexec : execOp a.eval o = (do pure (.value (← Instr.buildSlice t n (ps.map fun (i, x) => (i, a.eval x))))) := by simp [execOp, ho]
  unfold buildSliceV
  split
  case h_2 => trivial
  rename_i e hd
  split
  case h_2 => trivial
  rename_i z hz
  split
  case h_2 => trivial
  rename_i zv hzv
  split
  case h_2 => trivial
  rename_i hlen
  split
  case h_2 => trivial
  rename_i hle
  split
  case h_2 => trivial
  rename_i c hc
  have hu := hE.run_und hd w
  have hlen : zv.cells.length = z := by have := Nat.eq_of_beq_eq_true hlen; simpa using this
  have hle : n * z ≤ 16777216 := Nat.le_of_ble_eq_true hle
  obtain ⟨hz1, hz2⟩ := hE.run_zero ρ nx hzv w
  have hrep : Scs nx (repList n zv.cells) := Scs_of_get fun j v hj => by
    have hj' := (List.getElem?_eq_some_iff.1 hj).1
    rw [repList_length] at hj'
    rw [repList_get _ _ _ hj'] at hj
    exact Scs_get (cells_Scs hz2) hj
  obtain ⟨h1, h2⟩ := fill_ok (place' := fun i => some (i * z, z)) hT (fun i p hp => hp) hrep hc
  have st := newObj_ok H e c h1 #[]
  simp only [Array.append_empty] at st
  refine .val' st (Nat.lt_succ_self _) hexec ?_
  have h2' : Instr.fill (fun i => some (i * z, z)) (concs ρ (repList n zv.cells)).toArray (List.map (fun x => (x.fst, a.eval x.snd)) ps.toList) = some (concs ρ c).toArray := h2
  have hzc := zeroCells_concs ρ zv.cells n
  unfold Builtin.zeroCells at hzc
  simp only [List.size_toArray, concs_length, hlen] at hzc
  have hzc' : (Array.range (n * z)).map (fun i => (concs ρ zv.cells).toArray[i % (concs ρ zv.cells).toArray.size]!) = (concs ρ (repList n zv.cells)).toArray := by
    apply Array.ext'
    simp only [List.size_toArray, concs_length, hlen]
    exact hzc
  have hno : ¬ (2 ^ 24 < n * z) := by omega
  by_cases h0 : n * z = 0
  · have hr0 : concs ρ (repList n zv.cells) = [] := by
      have : (concs ρ (repList n zv.cells)).length = 0 := by rw [concs_length, repList_length, hlen, h0]
      exact List.length_eq_zero_iff.1 this
    rw [hr0] at h2'
    simp [Instr.buildSlice, hu, hE.run_size hz, h0, h2', newRow, conc, Rho.at, Array.range_zero']
  · simp only [Instr.buildSlice, hu, hE.run_size hz, Sem.run_bind, Result.andThen_ok, gt_iff_lt, if_neg hno, if_neg h0, hz1, cells_conc, Sem.run_pure]
    rw [hzc', Array.toList_map, h2']
    simp [newRow, conc, Rho.at]
end
end Go.Ev
/-! THE EVALUATOR's SOUNDNESS, 12: make, append, copy. -/
namespace Go.Ev
open Go
section
variable {E : Env} {P : Program} {ρ : Rho} {h : Hp} {nx : Nat} {w : World} {o : Oper} {a : Act} {tm : PT AV}

theorem Step.sub {ρ' : Rho} {h' h'' : Hp} {nx' : Nat} {w' : World} (s : Step ρ h nx w ρ' h' nx' w') (hs : ∀ b o, h''.get b = some o → h'.get b = some o) : Step ρ h nx w ρ' h'' nx' w' :=
  ⟨s.le, s.ext, s.hr.sub hs, s.size, s.old, fun b hb => s.new b (let ⟨o, ho⟩ := hb; ⟨o, hs b o ho⟩), s.out⟩
theorem lenOf_ok {x : AV} {n : Nat} (hx : lenOf x = some n) : ∀ w' : World, (Builtin.lenOf (conc ρ x)).run P w' = .ok n w' := fun w' => by
  cases x <;> first | (cases hx; simp [Builtin.lenOf, conc]) | cases hx
theorem allOne_of_bytes : ∀ l n, allOne (bytesOf l n) = true
  | 0, _ => rfl
  | l + 1, n => by simp [bytesOf, allOne, allOne_of_bytes l]
theorem bytesOf_take (ρ : Rho) (n l x : Nat) (h : n ≤ l) : concs ρ (bytesOf n x) = ((toBA l x).extract 0 n).data.toList.map fun b => Value.int .u8 (b.toNat : Int) := by
  rw [toBA_extract l x 0 n (Nat.zero_le _) h, bytesOf_conc]
  have : strCut x 0 n = x % 256 ^ n := by
    show x / 256 ^ 0 % 256 ^ (n - 0) = _
    simp
  rw [this]
  have e : bytesL n (x % 256 ^ n) = bytesL n x := by
    apply List.ext_getElem?
    intro i
    by_cases hi : i < n
    · rw [bytesL_get _ _ _ hi, bytesL_get _ _ _ hi]
      congr 2
      have h1 : 256 ^ n = 256 ^ i * (256 * 256 ^ (n - i - 1)) := by
        rw [← Nat.pow_succ', ← Nat.pow_add]; congr 1; omega
      rw [h1, Nat.mod_mul_right_div_self, Nat.mod_mul_right_mod]
    · rw [List.getElem?_eq_none (by simp; omega), List.getElem?_eq_none (by simp; omega)]
  simp [toBA, e]
theorem firstCells_ok (H : HR ρ h nx w) {size n k : Nat} {x : AV} {cs : List AV} (hl : lenOf x = some k) (hn : n ≤ k) (hf : firstCells h size n x = some cs) :
    cs.length = n * size ∧ Scs nx cs ∧ ∀ w', w'.heap = w.heap → (Builtin.firstCells size n (conc ρ x)).run P w' = .ok (concs ρ cs).toArray w' := by
  have sl : ∀ b i l c, hcells h b i (n * size) = some cs → cs.length = n * size ∧ Scs nx cs ∧ ∀ w', w'.heap = w.heap → (Builtin.firstCells size n (.slice (some (ρ.at b i)) l c)).run P w' = .ok (concs ρ cs).toArray w' := fun b i l c hc => by
    obtain ⟨h1, h2, _⟩ := cells_of H hc
    exact ⟨h1, h2, fun w' e => run_cells_of (P := P) (H.heapEq e) hc⟩
  cases x with
  | nilSlice =>
    cases hl; cases hf
    have : n = 0 := by omega
    subst this
    exact ⟨by simp, trivial, fun w' _ => run_firstCells_none w' size 0 0 0⟩
  | sliceZ b i l z =>
    cases hl; cases hf
    have : n = 0 := by omega
    subst this
    exact ⟨by simp, trivial, fun w' _ => run_firstCells_some w' size 0 _ _ _ [] (by simp) (by simp)⟩
  | slice b i l c => exact sl b i l c hf
  | sliceU b i l c => exact sl b i l _ hf
  | str l x =>
    cases hl
    simp only [firstCells] at hf
    split at hf
    · cases hf
    · rename_i s
      cases s with
      | succ s => cases hf
      | zero =>
        cases hf
        refine ⟨by simp [bytesOf_length], bytesOf_Scs _ _ _, fun w' _ => ?_⟩
        have := bytesOf_take ρ n k x hn
        simp only [conc, Builtin.firstCells, Sem.run_pure]
        congr 1
        apply Array.ext'
        simpa using this.symm
  | _ => cases hl
theorem src_ok (hE : EnvOk E P) (H : HR ρ h nx w) {size n tx : Nat} {x : AV} {cs : List AV} (hs : isSeq E [tx] = true) (hl : lenOf x = some n) (hf : firstCells h size n x = some cs) (h1 : allOne cs = true) :
    Src P size tx (conc ρ x) n (concs ρ cs) w := by
  obtain ⟨g1, g2, g3⟩ := firstCells_ok (P := P) H hl (Nat.le_refl _) hf
  refine ⟨?_, lenOf_ok hl, g3 w rfl, g3 w.drew rfl, by simpa using g1, oneCell_conc ρ cs h1⟩
  unfold isSeq at hs
  simp only at hs
  split at hs
  · rename_i d hd
    cases d <;> first | exact .inl ⟨_, hE.und hd⟩ | exact .inr (hE.und hd) | cases hs
  · cases hs
theorem op_makeSlice (hE : EnvOk E P) (hT : TR ρ nx tm a.tmps) (H : HR ρ h nx w) {t : Nat} {x y : Operand} (ho : o.op = .makeSlice t x y) :
    OpOk P ρ h nx w o a (op1 tm x fun x => op1 tm y fun y => makeSliceV E h nx t x y) := by
  refine .op1 hT x fun u _ hu => .op1 hT y fun v _ hv => ?_
  have hexec : execOp a.eval o = (do pure (.value (← Instr.makeSlice t (conc ρ u) (conc ρ v)))) := by simp [execOp, ho, hu, hv]
  unfold makeSliceV
  split
  case h_2 => trivial
  rename_i e hd
  split
  case h_2 => trivial
  rename_i l hl
  split
  case h_2 => trivial
  rename_i c hc
  split
  case h_2 => trivial
  rename_i i hi
  split
  case h_2 => trivial
  rename_i zv hzv
  split
  case h_2 => trivial
  rename_i hlc
  split
  case h_2 => trivial
  rename_i hb
  have hlc : l ≤ c := Nat.le_of_ble_eq_true hlc
  have hb : c * (i.bytes + 1) ≤ 100000000 := Nat.le_of_ble_eq_true hb
  have hc8 : c ≤ 100000000 := Nat.le_trans (Nat.le_mul_of_pos_right _ (Nat.succ_pos _)) hb
  have hcb : i.bytes * c ≤ 100000000 := by
    have : c * i.bytes ≤ c * (i.bytes + 1) := Nat.mul_le_mul_left _ (Nat.le_succ _)
    rw [Nat.mul_comm]; omega
  have asN : ∀ {v : AV} {n : Nat}, asNat v = some n → ∃ k, v = .int k (n : Int) := fun {v n} hv => by
    unfold asNat at hv
    split at hv
    · split at hv
      · cases hv; exact ⟨_, rfl⟩
      · cases hv
    · cases hv
  obtain ⟨kl, rfl⟩ := asN hl
  obtain ⟨kc, rfl⟩ := asN hc
  obtain ⟨zz, hzz1, hzz2⟩ : ∃ zz, i.zero = some zz ∧ zz = conc ρ zv := by
    unfold zero at hzv
    rw [hi] at hzv
    simp only at hzv
    split at hzv
    · rename_i zz hzz
      exact ⟨zz, hzz, (ofV_ok ρ nx _ _ _ hzv).1.symm ▸ rfl⟩
    · cases hzv
  have hsc : Scs nx zv.cells := cells_Scs (hE.run_zero ρ nx hzv w).2
  have hzl : zv.cells.length = i.size := by
    have := hE.zsize e i zz hi hzz1
    rw [hzz2, cells_conc] at this
    simpa using this
  have hrun := run_make (P := P) w t e i zz (hE.und hd) (hE.types _ _ hi) hzz1 kl kc l c (by omega) (by omega) (by
    have : ((i.bytes * c : Nat) : Int) ≤ 100000000 := by omega
    rw [Int.natCast_mul] at this
    omega) (by omega)
  simp only [Int.toNat_natCast, hzz2, cells_conc] at hrun
  have st := new_ok (hz := rfl) H (c * i.size) zv.cells .nil (some 0) e (madeCells (concs ρ zv.cells).toArray (c * i.size)) (0, 0) 0 (by simp [size_madeCells]) (.inl rfl) fun j v hj hv => by
    have hv : zv.cells[j % zv.cells.length]? = some v := by
      unfold cellAt at hv
      rw [PT.get_nil] at hv
      simp only [nth_eq, len_eq] at hv
      exact hv
    refine ⟨Scs_get hsc hv, ?_⟩
    rw [Nat.zero_add]
    unfold madeCells
    simp [hj, concs_get, hv, getElem!_def]
  refine .val' st (Nat.lt_succ_self _) hexec ?_
  simp only [conc] at hrun ⊢
  rw [hrun]
  simp [Rho.at]
theorem copy_ok (hE : EnvOk E P) (H : HR ρ h nx w) {ts : Array TypeId} {t ty : Nat} {d s : AV} (ht : ts[0]? = some t)
    (he : execOp a.eval o = (do pure (.value (← Builtin.copy_ ts ty #[conc ρ d, conc ρ s])))) : OpOk P ρ h nx w o a (copyV E h nx t d s) := by
  unfold copyV
  split
  case h_2 => trivial
  rename_i z hz
  split
  case h_2 => trivial
  rename_i dl hdl
  split
  case h_2 => trivial
  rename_i sl hsl
  split
  case h_2 => trivial
  rename_i cs hcs
  have hmin : leastN sl dl = Nat.min sl dl := by
    unfold leastN
    by_cases hle : sl ≤ dl
    · rw [Nat.ble_eq_true_of_le hle]; simp [Nat.min_def, hle]
    · have : Nat.ble sl dl = false := by
        cases hq : Nat.ble sl dl
        · rfl
        · exact absurd (Nat.le_of_ble_eq_true hq) hle
      rw [this]; simp [Nat.min_def, hle]
  have hk : leastN sl dl ≤ sl := by rw [hmin]; exact Nat.min_le_left _ _
  obtain ⟨g1, g2, g3⟩ := firstCells_ok (P := P) H hsl hk hcs
  have hl := lenOf_ok (P := P) (ρ := ρ) hsl
  obtain ⟨e, hd, hze⟩ : ∃ e, E.und t = some (.slice e) ∧ E.size e = some z := by
    unfold sliceElem at hz
    split at hz
    · rename_i e hd; exact ⟨e, hd, hz⟩
    · cases hz
  have hu := hE.run_und hd w
  have hsz := hE.run_size hze (w := w)
  have g3' := g3 w rfl
  rw [hmin] at g3' ⊢
  cases d with
  | nilSlice =>
    refine .pv' (v := rI 0) trivial he ?_
    have : dl = 0 := by cases hdl; rfl
    subst this
    simp only [Nat.min_zero, Nat.min_def, Nat.le_zero_eq] at g3'
    have g4 : (Builtin.firstCells z 0 (conc ρ s)).run P w = .ok (concs ρ cs).toArray w := by
      by_cases h0 : sl = 0
      · subst h0; simpa using g3'
      · simpa [h0] using g3'
    have hm0 : sl.min 0 = 0 := Nat.min_zero sl
    simp [Builtin.copy_, ht, hu, hl, hsz, conc, g4, conc_rI, hm0]
  | slice b i l c =>
    cases hdl
    simp only
    split
    · rename_i h' hs
      obtain ⟨w', hr, st⟩ := store_ok (P := P) H hs g2
      refine .val' st ⟨⟩ he ?_
      simp [Builtin.copy_, ht, hu, hl, hsz, conc, g3', hr, conc_rI]
    · trivial
  | sliceU b i l c =>
    cases hdl
    simp only
    split
    · rename_i h' hs
      obtain ⟨w', hr, st⟩ := store_ok (P := P) H hs g2
      refine .val' st ⟨⟩ he ?_
      simp [Builtin.copy_, ht, hu, hl, hsz, conc, g3', hr, conc_rI]
    · trivial
  | _ => trivial
end
end Go.Ev
