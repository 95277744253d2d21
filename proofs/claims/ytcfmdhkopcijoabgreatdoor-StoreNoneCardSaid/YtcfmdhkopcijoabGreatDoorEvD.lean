import Derived.Test.YtcfmdhkopcijoabGreatDoorEvC
import Derived.Lib.UnsafeStr
import Derived.Lib.OthersKept
set_option linter.all false
/-! THE EVALUATOR's SOUNDNESS, 13: append. -/
namespace Go.Ev
open Go
section
variable {E : Env} {P : Program} {ρ : Rho} {h : Hp} {nx : Nat} {w : World} {o : Oper} {a : Act} {tm : PT AV}

/-- There is room: whatever storing comes to. -/
theorem run_append_stored (t tx ty e : TypeId) (i : TypeInfo) (ht : P.underlying t = some (.slice e)) (hi : P.info? e = some i) (ad : Addr) (sLen sCap : Nat) (x : Value) (n : Nat) (news : List Value)
    (hs : Src P i.size tx x n news w) (hroom : sLen + n ≤ sCap) (w' : World) (hst : (storeCells (ad.add (sLen * i.size)) news).run P w = .ok () w') :
    (Builtin.append_ #[t, tx] ty #[.slice (some ad) sLen sCap, x]).run P w = .ok (.slice (some ad) (sLen + n) sCap) w' := by
  rcases hs.kind with ⟨e', hk⟩ | hk <;> simp [Builtin.append_, run_underlying ht, run_underlying hk, sizeOf, typeInfo, hi, hs.len, hroom, hs.cells, hst]

theorem cap_new (ρ : Rho) (nx b l z : Nat) (hz : 0 < z) (g : Nat) (hg : l = g * z) : (ρ.upd nx b 0 l).cap nx 0 z = g := by
  unfold Rho.cap
  rw [Rho.upd_sz, Rho.upd_β, hg]
  simp [hz]
theorem append_ok (hE : EnvOk E P) (H : HR ρ h nx w) {t tx ty e z n l : Nat} {i : TypeInfo} {zv : Value} {s : AV} {X : Value} {new : List AV} (hd : E.und t = some (.slice e)) (hi : E.types.get e = some i)
    (hzv : i.zero = some zv) (hz : i.size = z + 1) (hsrc : Src P i.size tx X n (concs ρ new) w) (hnew : Scs nx new) (h1 : allOne new = true) (hsc : Sc nx s) (hls : lenOf s = some l)
    (hb : (l + n) * (i.bytes + 1) ≤ 100000000)
    (he : execOp a.eval o = (do pure (.value (← Builtin.append_ #[t, tx] ty #[conc ρ s, X])))) : OpOk P ρ h nx w o a (appendNew h nx e (z + 1) n s new) := by
  have htt := hE.und hd
  have hit := hE.types _ _ hi
  have hlen : new.length = n * i.size := by have := hsrc.newsLen; simpa using this
  have hln : l + n ≤ 100000000 := Nat.le_trans (Nat.le_mul_of_pos_right _ (Nat.succ_pos _)) hb
  have hlb : (l + n) * i.bytes ≤ 100000000 := Nat.le_trans (Nat.mul_le_mul_left _ (Nat.le_succ _)) hb
  have h63 : ((l + n : Nat) : Int) ≤ 9223372036854775807 := by omega
  have hzs : zv.cells.size = i.size := hE.zsize e i zv hi hzv
  -- a new row: what is in it
  have grow : ∀ (base : Option Addr) (cap : Nat) (olds : List Value) (tr : PT AV) (fz : Option Nat) (h' : Hp), cap < l + n → conc ρ s = .slice base l cap → olds.length = l * i.size →
      (Builtin.firstCells i.size l (.slice base l cap)).run P w.drew = .ok olds.toArray w.drew →
      (∀ j v, j < l * i.size → tr.get j = some v → Sc nx v ∧ olds[j]? = some (conc ρ v)) →
      (∀ b q, h'.get b = some q → h.get b = some q) →
      OpOk P ρ h nx w o a (.val (.sliceU nx 0 (l + n) (z + 1)) (h'.set nx (.cells (l * (z + 1) + new.length) [] (writeFrom tr (l * (z + 1)) new) fz e)) (nx + 1)) := fun base cap olds tr fz h' hcap hcs hol hold htr hsub => by
    have hfit := growslice_fits (need := l + n) (old := cap) (bytes := i.bytes) hcap (by omega)
    have hrun := run_append_grow_src (P := P) w t tx ty e i zv htt hit hzv base l cap olds hold X n (concs ρ new) hsrc hcap h63 hfit
    have hge := grownCap_ge w (l + n) cap e
    have hzc : (Builtin.zeroCells zv.cells (grownCap w (l + n) cap e - (l + n))).size = (grownCap w (l + n) cap e - (l + n)) * i.size := by simp [Builtin.zeroCells, hzs]
    generalize hC : ((olds ++ concs ρ new).toArray ++ Builtin.zeroCells zv.cells (grownCap w (l + n) cap e - (l + n))) = C at hrun
    have hCs : C.size = grownCap w (l + n) cap e * (z + 1) := by
      rw [← hC, Array.size_append, hzc]
      simp only [List.size_toArray, List.length_append, concs_length, hol, hlen, hz]
      rw [← Nat.add_mul, ← Nat.add_mul]
      congr 1
      omega
    have st := new_ok (hz := rfl) H (l * (z + 1) + new.length) [] (writeFrom tr (l * (z + 1)) new) fz e C (0, 0) 0 (by
        rw [hCs, hlen, hz, Nat.zero_add, ← Nat.add_mul]
        exact Nat.mul_le_mul_right _ hge) (by cases fz <;> exact .inl rfl) fun j v hj hv => by
      rw [cellAt_write] at hv
      rw [Nat.zero_add, ← hC, Array.getElem?_append_left (by simp only [List.size_toArray, List.length_append, concs_length, hol, hz]; omega), List.getElem?_toArray]
      by_cases hjl : j < l * (z + 1)
      · rw [if_neg (by omega)] at hv
        have hv : tr.get j = some v := by
          unfold cellAt at hv
          split at hv
          · rename_i u hu; cases hv; exact hu
          · simp at hv
        obtain ⟨g1, g2⟩ := htr j v (by rw [hz]; exact hjl) hv
        refine ⟨g1, ?_⟩
        rw [List.getElem?_append_left (by rw [hol, hz]; exact hjl)]
        exact g2
      · rw [if_pos ⟨by omega, hj⟩] at hv
        refine ⟨Scs_get hnew hv, ?_⟩
        rw [List.getElem?_append_right (by rw [hol, hz]; omega), hol, hz, concs_get, hv]
        rfl
    have st2 := st.sub (h'' := h'.set nx (.cells (l * (z + 1) + new.length) [] (writeFrom tr (l * (z + 1)) new) fz e)) fun b q hb => by
      rw [PT.get_set] at hb ⊢
      split
      · rw [if_pos (by assumption)] at hb; exact hb
      · rw [if_neg (by assumption)] at hb; exact hsub b q hb
    rw [hcs] at he
    refine .val' (st2.heapEq (w'' := w.drew.alloc (.cells C e)) rfl) (Nat.lt_succ_self _) he ?_
    rw [hrun]
    have hcn := cap_new ρ nx w.heap.size C.size (z + 1) (Nat.succ_pos _) _ hCs
    simp only [conc, hcn]
    simp [Rho.at]
  have sl : ∀ b i' c, s = .slice b i' l c → OpOk P ρ h nx w o a (appendNew h nx e (z + 1) n (.slice b i' l c) new) := fun b i' c hs => by
    subst hs
    simp only [appendNew]
    split
    · rename_i hroom
      have hroom : l + n ≤ c := Nat.le_of_ble_eq_true hroom
      cases n with
      | zero =>
        have hn0 : new = [] := List.length_eq_zero_iff.1 (by omega)
        subst hn0
        exact .pv' hsc he (run_append_nothing w t tx ty e i htt hit _ l c hroom _ hsrc)
      | succ n =>
        simp only
        split
        · rename_i h' hst
          obtain ⟨w', hr, st⟩ := store_ok (P := P) H hst hnew
          refine .val' st hsc he ?_
          have := run_append_stored (P := P) (w := w) t tx ty e i htt hit (ρ.at b i') l c X (n + 1) _ hsrc hroom w' (by rw [at_add, hz]; exact hr)
          simpa [conc] using this
        · trivial
    · rename_i hroom
      have hroom : c < l + n := by
        rcases Nat.lt_or_ge c (l + n) with hlt | hle
        · exact hlt
        · exact absurd (show (l.add n).ble c = true from Nat.ble_eq_true_of_le hle) (by rw [hroom]; simp)
      split
      · rename_i old hold
        obtain ⟨g1, g2, g3⟩ := cells_of H hold
        have := grow (some (ρ.at b i')) c (concs ρ old) (writeFrom .nil 0 old) (some 0) h hroom rfl (by simpa [hz] using g1)
          (run_firstCells_some w.drew i.size l _ l c _ (by simpa [hz] using g1) (fun j v hj => by rw [at_add]; simpa using g3 j v hj)) (fun j v hj hv => by
            rw [writeFrom_get] at hv
            split at hv
            · rw [Nat.sub_zero] at hv; exact ⟨Scs_get g2 hv, by rw [concs_get, hv]; rfl⟩
            · rw [PT.get_nil] at hv; cases hv) (fun _ _ hb => hb)
        have e2 : newObj e (old ++ new) = .cells (l * (z + 1) + new.length) [] (writeFrom (writeFrom .nil 0 old) (l * (z + 1)) new) (some 0) e := by
          unfold Ev.newObj
          have e3 : ∀ (l1 l2 : List AV) (t : PT AV) (k : Nat), writeFrom t k (l1 ++ l2) = writeFrom (writeFrom t k l1) (k + l1.length) l2 := by
            intro l1
            induction l1 with
            | nil => intro l2 t k; rfl
            | cons x l1 ih => intro l2 t k; simp only [List.cons_append, writeFrom]; rw [ih]; simp [Nat.add_comm, Nat.add_left_comm]
          have g1' : old.length = l * (z + 1) := g1
          rw [e3, g1', Nat.zero_add]
          simp [g1']
        rw [e2]
        exact this
      · trivial
  cases s with
  | nilSlice =>
    cases hls
    simp only [appendNew]
    cases n with
    | zero =>
      have hn0 : new = [] := List.length_eq_zero_iff.1 (by omega)
      subst hn0
      exact .pv' hsc he (run_append_nothing w t tx ty e i htt hit none 0 0 (Nat.le_refl _) _ hsrc)
    | succ n =>
      have := grow none 0 [] .nil (some 0) h (by omega) rfl (by simp) (run_firstCells_none _ _ _ _ _) (fun j v hj hv => by rw [PT.get_nil] at hv; cases hv) (fun _ _ hb => hb)
      rw [Nat.zero_mul, Nat.zero_add, Nat.zero_add] at this
      have e2 : newObj e new = .cells new.length [] (writeFrom .nil 0 new) (some 0) e := by unfold Ev.newObj; rw [len_eq]
      rw [e2]
      exact this
  | slice b i' l' c => cases hls; exact sl b i' c rfl
  | sliceU b i' l' z' =>
    cases hls
    simp only [appendNew]
    split
    case h_2 => trivial
    rename_i hzz
    have hzz : z + 1 = z' := Nat.eq_of_beq_eq_true hzz
    subst hzz
    split
    case h_2 => trivial
    rename_i q hq
    split
    case h_2 => trivial
    rename_i m dz tr fz e'
    split
    case h_2 => trivial
    split
    case h_2 => trivial
    split
    case h_2 => trivial
    rename_i hlm
    split
    case h_2 => trivial
    rename_i hee
    have hlm : l * (z + 1) ≤ m := Nat.le_of_ble_eq_true hlm
    have hee : e = e' := Nat.eq_of_beq_eq_true hee
    subst hee
    obtain ⟨hlt, c, fr, k1, k2, k3, k4, k5⟩ := H.obj _ _ hq
    have hcl : l ≤ ρ.cap b 0 (z + 1) := by
      unfold Rho.cap
      rw [Nat.le_div_iff_mul_le (Nat.succ_pos _)]
      show l * (z + 1) ≤ _
      omega
    cases n with
    | zero =>
      have hn0 : new = [] := List.length_eq_zero_iff.1 (by omega)
      subst hn0
      exact .pv' (v := .sliceU b 0 l (z + 1)) hsc he (run_append_nothing w t tx ty e i htt hit (some (ρ.at b 0)) l (ρ.cap b 0 (z + 1)) hcl _ hsrc)
    | succ n =>
      simp only
      split
      case h_2 => trivial
      rename_i hfz
      rw [len_eq]
      by_cases hroom : l + (n + 1) ≤ ρ.cap b 0 (z + 1)
      · have hin : (l + (n + 1)) * (z + 1) ≤ c.size - ρ.β b := by
          unfold Rho.cap at hroom
          rw [Nat.le_div_iff_mul_le (Nat.succ_pos _)] at hroom
          rw [k2]; simpa using hroom
        have hin' : ρ.β b + (l * (z + 1) + new.length) ≤ c.size := by
          rw [hlen, hz, ← Nat.add_mul]
          have : 0 < (l + (n + 1)) * (z + 1) := Nat.mul_pos (by omega) (Nat.succ_pos _)
          omega
        have hrun := run_storeCells_cells (P := P) (ρ.ι b) (ρ.β b + l * (z + 1)) (concs ρ new) 0 w (fun j hj => by
            simp only [concs_length] at hj
            have hb : ρ.β b + l * (z + 1) + 0 + j < c.size := by omega
            simp only [World.cell?, k1, Array.getElem?_eq_getElem hb]; rfl)
          (fun j hj => by
            simp only [concs_length] at hj
            have hfz' : fzOk fz (l * (z + 1) + j) = true := by
              cases fz with
              | none => rfl
              | some k => have : k ≤ l * (z + 1) := Nat.le_of_ble_eq_true hfz; exact Nat.ble_eq_true_of_le (by omega)
            have := k4.free hfz' (i := l * (z + 1) + j) (by omega)
            simp only [World.frozen?, k1]
            rw [show ρ.β b + l * (z + 1) + 0 + j = ρ.β b + (l * (z + 1) + j) from by omega]
            exact this)
          (oneCell_conc ρ new h1)
        obtain ⟨q1, q2, q3⟩ := heap_setCells (ρ.ι b) (concs ρ new) (ρ.β b + l * (z + 1)) w c e fr k1
        have hE2 := Ext.upd ρ nx (ρ.ι b) (ρ.β b) (ρ.sz b) (hz := ρ.zero b)
        have st := H.move hq (.cells (l * (z + 1) + new.length) [] (writeFrom tr (l * (z + 1)) new) fz e) q2 q3 (by
          refine ⟨_, fr, by rw [Rho.upd_ι]; exact q1, by simp [k2], by simpa using hin', by simpa using k4, fun j v hj hv => ?_⟩
          rw [cellAt_write] at hv
          rw [Rho.upd_β, setR_get _ _ _ _ (by simp; omega)]
          by_cases hjl : j < l * (z + 1)
          · rw [if_neg (by omega)] at hv
            rw [if_neg (by omega)]
            obtain ⟨g1, g2⟩ := k5 j v (by omega) hv
            exact ⟨Sc.mono (Nat.le_succ _) v g1, by rw [conc_ext hE2 v g1]; exact g2⟩
          · rw [if_pos ⟨by omega, hj⟩] at hv
            have g1 := Scs_get hnew hv
            rw [if_pos (by simp; omega), concs_get, show ρ.β b + j - (ρ.β b + l * (z + 1)) = j - l * (z + 1) from by omega, hv]
            exact ⟨Sc.mono (Nat.le_succ _) v g1, by rw [conc_ext hE2 v g1]; rfl⟩) (out_setCells _ _ _ _)
        refine .val' st (Nat.lt_succ_self _) he ?_
        have := run_append_stored (P := P) (w := w) t tx ty e i htt hit (ρ.at b 0) l (ρ.cap b 0 (z + 1)) X (n + 1) _ hsrc hroom _ (by rw [at_add, hz, Nat.zero_add]; simpa [Rho.at] using hrun)
        simp only [conc] at this ⊢
        rw [this]
        simp [Rho.at, Rho.cap]
      · have hcut : (c.extract (ρ.β b) (ρ.β b + l * (z + 1))).toList.length = l * i.size := by
          rw [hz]
          simp only [Array.length_toList, Array.size_extract]
          omega
        have hget : ∀ j, j < l * (z + 1) → (c.extract (ρ.β b) (ρ.β b + l * (z + 1))).toList[j]? = c[ρ.β b + j]? := fun j hj => by
          rw [Array.getElem?_toList, Array.getElem?_extract, if_pos (by omega)]
        refine grow (some (ρ.at b 0)) (ρ.cap b 0 (z + 1)) (c.extract (ρ.β b) (ρ.β b + l * (z + 1))).toList tr fz (h.del b) (by omega) rfl hcut
          (run_firstCells_some w.drew i.size l _ l _ _ hcut (fun j v hj => ?_)) (fun j v hj hv => ?_) (fun b' q hb => ?_)
        · have hj' : j < l * (z + 1) := by have := (List.getElem?_eq_some_iff.1 hj).1; rw [hcut, hz] at this; exact this
          rw [hget j hj'] at hj
          rw [at_add, Nat.zero_add]
          have k1' : w.drew.heap[ρ.ι b]? = some (.cells c e fr) := k1
          simp [World.cell?, Rho.at, k1', hj]
        · rw [hz] at hj
          obtain ⟨g1, g2⟩ := k5 j v (by omega) (by unfold cellAt; rw [hv])
          exact ⟨g1, by rw [hget j hj]; exact g2⟩
        · rw [PT.get_del] at hb
          split at hb
          · cases hb
          · exact hb
  | _ => trivial
theorem appendV_ok (hE : EnvOk E P) (H : HR ρ h nx w) {ts : Array TypeId} {ty : Nat} {s x : AV} (hsc : Sc nx s)
    (he : execOp a.eval o = (do pure (.value (← Builtin.append_ ts ty #[conc ρ s, conc ρ x])))) : OpOk P ρ h nx w o a (appendV E h nx ts.toList s x) := by
  unfold appendV
  split
  case h_2 => trivial
  rename_i t rest hts
  split
  case h_2 => trivial
  rename_i e hd
  split
  case h_2 => trivial
  rename_i i hi
  split
  case h_2 => trivial
  rename_i hseq
  obtain ⟨tx, rfl⟩ : ∃ tx, rest = [tx] := by
    cases rest with
    | nil => cases hseq
    | cons a r => cases r with
      | nil => exact ⟨a, rfl⟩
      | cons b r => cases hseq
  have hts : ts = #[t, tx] := Array.ext' hts
  subst hts
  unfold appendAt
  split
  case h_1 => trivial
  rename_i zv hzv
  split
  case h_2 => trivial
  rename_i n hn
  split
  case h_2 => trivial
  rename_i new hnew
  split
  case h_2 => trivial
  rename_i h1
  split
  case h_2 => trivial
  rename_i l hl
  split
  case h_2 => trivial
  rename_i hb
  split
  case h_1 => trivial
  rename_i z hz
  obtain ⟨_, g2, _⟩ := firstCells_ok (P := P) H hn (Nat.le_refl _) hnew
  exact append_ok hE H hd hi hzv hz (src_ok hE H hseq hn hnew h1) g2 h1 hsc hl (Nat.le_of_ble_eq_true hb) he
end
end Go.Ev
/-! THE EVALUATOR's SOUNDNESS, 14: unsafe.String, iterators. -/
namespace Go.Ev
open Go
section
variable {E : Env} {P : Program} {ρ : Rho} {h : Hp} {nx : Nat} {w : World} {o : Oper} {a : Act} {tm : PT AV}

theorem liesAt_row {e : TypeId} (hc : P.cellsOf e = 1) (count off n : Nat) (hn : off + n ≤ count) : liesAt P P.depth e count off e n = true := by
  have hd : P.depth = (2 * (P.types.size + Made.depth) + 1) + 1 := rfl
  rw [hd]
  simp only [liesAt, Bool.or_eq_true]
  left
  rw [hd]
  simp [rowAt, hc, hn, sameLayout, Nat.mod_one]
theorem run_unsafeString_at (pt it ty e : TypeId) (hp : P.underlying pt = some (.pointer e)) (hc : P.cellsOf e = 1) (g off cells : Nat) (hsh : w.shape? g = some (e, cells)) (l : List UInt8) (h0 : l ≠ []) (hn : off + l.length ≤ cells)
    (k : IntKind) (h63 : l.length ≤ 9223372036854775807)
    (hcell : ∀ j x, l[j]? = some x → w.cell? ((⟨g, off, none⟩ : Addr).add j) = some (.int .u8 x.toNat)) (ts : Array TypeId) (hts : ts[0]? = some pt) :
    (Builtin.unsafeString_ ts ty #[.pointer (some ⟨g, off, none⟩), .int k l.length]).run P w = .ok (.string ⟨l.toArray⟩) (w.freeze ⟨g, off, none⟩ l.length) := by
  have hl : l.length ≠ 0 := by simpa using h0
  have hlb := Go.Lib.run_loadBytes (P := P) w l ⟨g, off, none⟩ .empty hcell
  have hlies := liesAt_row (P := P) hc (cells / P.cellsOf e) off l.length (by rw [hc]; simpa using hn)
  have h63' : ¬ (9223372036854775807 : Int) < (l.length : Int) := by omega
  have hdef : Builtin.unsafeString_ ts ty #[.pointer (some ⟨g, off, none⟩), .int k l.length] =
      (do
        let n ← asInt (.int k l.length)
        let some pt := ts[0]? | stuck "unsafe.String: no argument types"
        if n < 0 then runtimePanic (.error "unsafe.String: len out of range")
        if n > IntKind.i64.max then unsupported (.unsafePointer "String: a length above the largest int")
        if n = 0 then pure (.string .empty)
        else if ← variablesAt ⟨g, off, none⟩ (← elemOf pt) n.toNat then do
          let s ← loadBytes ⟨g, off, none⟩ .empty n.toNat
          freeze ⟨g, off, none⟩ n.toNat
          pure (.string s)
        else unsupported (.unsafePointer "String: not so many bytes at ptr")) := rfl
  rw [hdef, hts]
  have hmax : IntKind.i64.max = 9223372036854775807 := rfl
  have hneg : ¬ (l.length : Int) < 0 := by omega
  simp [asInt, asIntOf, hmax, h63', hneg, hl, variablesAt, hsh, elemOf, run_underlying hp, hlies, hlb]
theorem run_unsafeString_zero (ts : Array TypeId) (pt ty : TypeId) (hts : ts[0]? = some pt) (p : Option Addr) (k : IntKind) : (Builtin.unsafeString_ ts ty #[.pointer p, .int k 0]).run P w = .ok (.string .empty) w := by
  have hmax : IntKind.i64.max = 9223372036854775807 := rfl
  cases p with
  | none =>
    have hdef : Builtin.unsafeString_ ts ty #[.pointer none, .int k 0] =
        (do
          let n ← asInt (.int k 0)
          let some pt := ts[0]? | stuck "unsafe.String: no argument types"
          if n < 0 then runtimePanic (.error "unsafe.String: len out of range")
          if n > IntKind.i64.max then unsupported (.unsafePointer "String: a length above the largest int")
          if n = 0 then pure (.string .empty)
          else runtimePanic (.error "unsafe.String: ptr is nil and len is not zero")) := rfl
    rw [hdef, hts]
    simp [asInt, asIntOf, hmax]
  | some ad =>
    have hdef : Builtin.unsafeString_ ts ty #[.pointer (some ad), .int k 0] =
        (do
          let n ← asInt (.int k 0)
          let some pt := ts[0]? | stuck "unsafe.String: no argument types"
          if n < 0 then runtimePanic (.error "unsafe.String: len out of range")
          if n > IntKind.i64.max then unsupported (.unsafePointer "String: a length above the largest int")
          if n = 0 then pure (.string .empty)
          else if ← variablesAt ad (← elemOf pt) n.toNat then do
            let s ← loadBytes ad .empty n.toNat
            freeze ad n.toNat
            pure (.string s)
          else unsupported (.unsafePointer "String: not so many bytes at ptr")) := rfl
    rw [hdef, hts]
    simp [asInt, asIntOf, hmax]
theorem freeze_ok (H : HR ρ h nx w) {b i n : Nat} {h' : Hp} (hn : n ≠ 0) (hf : freezeV h b (i + n) = some h') : Step ρ h nx w ρ h' nx (w.freeze (ρ.at b i) n) := by
  unfold freezeV at hf
  split at hf
  case h_2 => cases hf
  rename_i ob hob
  split at hf
  case h_2 => cases hf
  rename_i m dz t fz e
  split at hf
  case h_2 => cases hf
  rename_i j
  cases hf
  obtain ⟨hlt, c, fr, h1, h2, h3, h4, h5⟩ := H.obj _ _ hob
  have hw : ∀ B, (w.freeze (ρ.at b i) n).heap[B]? = if ρ.ι b = B then some (.cells c e (if fr.1 == fr.2 then (ρ.β b + i, ρ.β b + i + n) else (min fr.1 (ρ.β b + i), max fr.2 (ρ.β b + i + n)))) else w.heap[B]? := fun B => by
    unfold World.freeze
    rw [if_neg hn]
    simp only [Rho.at, Array.getElem?_modify]
    split
    · subst_vars
      rw [h1]
      obtain ⟨lo, hi⟩ := fr
      rfl
    · rfl
  refine H.put hob _ (by unfold World.freeze; rw [if_neg hn]; simp) (fun B hB => by rw [hw, if_neg (Ne.symm hB)]) ⟨c, _, by rw [hw, if_pos rfl], h2, h3, ?_, h5⟩ (by unfold World.freeze; rw [if_neg hn]; exact ⟨rfl, rfl⟩)
  have key : ∀ K, i + n ≤ K → j ≤ K → FzOk (ρ.β b) c.size (some K) (if fr.fst == fr.snd then (ρ.β b + i, ρ.β b + i + n) else (min fr.fst (ρ.β b + i), max fr.snd (ρ.β b + i + n))) := fun K h1 h2 => by
    right
    split
    · show ρ.β b + i + n ≤ _; omega
    · rename_i hne
      have hne : fr.1 ≠ fr.2 := by simpa using hne
      rcases h4 with h4 | h4
      · exact absurd h4 hne
      · show max fr.2 (ρ.β b + i + n) ≤ _; omega
  cases hq : Nat.ble (i + n) j with
  | true => exact key j (Nat.le_of_ble_eq_true hq) (Nat.le_refl _)
  | false =>
    refine key (i + n) (Nat.le_refl _) ?_
    rcases Nat.le_total (i + n) j with hle | hle
    · rw [Nat.ble_eq_true_of_le hle] at hq; cases hq
    · exact hle
theorem unsafeString_ok (hE : EnvOk E P) (H : HR ρ h nx w) {ts : Array TypeId} {ty : Nat} {p l : AV}
    (he : execOp a.eval o = (do pure (.value (← Builtin.unsafeString_ ts ty #[conc ρ p, conc ρ l])))) (h0 : ∃ t, ts[0]? = some t) : OpOk P ρ h nx w o a (unsafeStringV E h nx ts.toList p l) := by
  obtain ⟨t0, ht0⟩ := h0
  unfold unsafeStringV
  split
  case h_2 => trivial
  rename_i n hn
  obtain ⟨k, rfl⟩ : ∃ k, l = .int k (n : Int) := by
    unfold asNat at hn
    split at hn
    · split at hn
      · cases hn; exact ⟨_, rfl⟩
      · cases hn
    · cases hn
  cases n with
  | zero =>
    have e0 : toBA 0 0 = ByteArray.empty := rfl
    cases p with
    | nilPtr => exact .pv' (v := .str 0 0) trivial he (run_unsafeString_zero ts t0 ty ht0 _ _)
    | ptr b i => exact .pv' (v := .str 0 0) trivial he (run_unsafeString_zero ts t0 ty ht0 _ _)
    | _ => trivial
  | succ n =>
    cases p with
    | ptr b i =>
      simp only
      split
      case h_2 => trivial
      rename_i h63
      have h63 : n + 1 ≤ 9223372036854775807 := Nat.le_trans (Nat.le_of_ble_eq_true h63) (by decide)
      unfold unsafeStringAt
      split
      case h_2 => trivial
      rename_i cs hcs
      split
      case h_2 => trivial
      rename_i x hx
      split
      case h_2 => trivial
      rename_i h' hf
      split
      case h_2 => trivial
      rename_i pt rest hts
      have hpt : ts[0]? = some pt := by rw [← Array.getElem?_toList, hts]; rfl
      split
      case h_2 => trivial
      rename_i hel
      obtain ⟨g1, g2, g3⟩ := cells_of H hcs
      have g4 := natOfBytes_conc ρ cs x hx
      have hel2 : ∃ m dz t fz e, h.get b = some (.cells m dz t fz e) ∧ P.underlying pt = some (.pointer e) ∧ P.cellsOf e = 1 := by
        unfold elemIs at hel
        cases hob : h.get b with
        | none => rw [hob] at hel; cases hel
        | some q =>
        rw [hob] at hel
        cases q with
        | map es c => cases hel
        | strIter l n p => cases hel
        | mapIter m s l k => cases hel
        | cells m dz t fz e =>
        simp only at hel
        split at hel
        case h_2 => cases hel
        rename_i u hu
        split at hel
        case h_2 => cases hel
        rename_i heu
        have heu : e = u := Nat.eq_of_beq_eq_true heu
        subst heu
        split at hel
        case h_2 => cases hel
        rename_i sz hsz
        have hsz1 : sz = 1 := Nat.eq_of_beq_eq_true hel
        subst hsz1
        refine ⟨_, _, _, _, _, rfl, hE.und hu, ?_⟩
        unfold Env.size at hsz
        split at hsz
        · rename_i inf hinf
          have hsz : inf.size = 1 := by simpa using hsz
          unfold Program.cellsOf
          rw [hE.types _ _ hinf]
          simp [hsz]
        · cases hsz
      obtain ⟨m, dz, t, fz, e, hob, hu, hc1⟩ := hel2
      obtain ⟨hlt, c, fr, k1, k2, k3, k4, k5⟩ := H.obj _ _ hob
      have hin : i + (n + 1) ≤ m := by
        unfold hcells at hcs
        rw [hob] at hcs
        simp only at hcs
        split at hcs
        · rename_i hle; exact Nat.le_of_ble_eq_true hle
        · cases hcs
      have st := freeze_ok H (Nat.succ_ne_zero n) hf
      have hL : (bytesL (n + 1) x).length = n + 1 := bytesL_length _ _
      have hrun := run_unsafeString_at (P := P) (w := w) pt 0 ty e hu hc1 (ρ.ι b) (ρ.β b + i) c.size (by simp [World.shape?, k1]) (bytesL (n + 1) x) (by intro e0; rw [e0] at hL; cases hL) (by rw [hL]; omega) k (by rw [hL]; exact h63) (fun j y hj => by
        have := g3 j (.int .u8 (y.toNat : Int)) (by rw [g4, g1, List.getElem?_map, hj]; rfl)
        rw [← at_add] at this
        exact this) ts hpt
      rw [hL] at hrun
      exact .val' (v := .str (n + 1) x) st trivial he hrun
    | _ => trivial
theorem nextStr_ok (H : HR ρ h nx w) {r l n p : Nat} (hr : h.get r = some (.strIter l n p)) (he : execOp a.eval o = (do pure (.value (← Instr.next (conc ρ (.ptr r 0)) true o.type)))) :
    OpOk P ρ h nx w o a (nextStr h nx r l n p) := by
  obtain ⟨hlt, hβ, hob⟩ := H.obj _ _ hr
  have hat : conc ρ (.ptr r 0) = .pointer (some ⟨ρ.ι r, 0, none⟩) := by simp [conc, Rho.at, hβ]
  rw [hat] at he
  have hsz : (toBA l n).size = l := by simp
  unfold nextStr
  split
  · rename_i hpl
    have hpl : p < l := Nat.le_of_ble_eq_true hpl
    split
    · rename_i hb
      have hb : byteAt n p < 128 := Nat.le_of_ble_eq_true hb
      have hget := toBA_get (n := n) hpl
      have hpl' : p < (toBA l n).size := by rw [hsz]; exact hpl
      have hgv : (toBA l n)[p] = UInt8.ofNat (byteAt n p) := by
        have h2 := getElem?_pos (toBA l n) p hpl'
        rw [h2] at hget
        exact Option.some.inj hget
      have hnat : ((toBA l n)[p]).toNat = byteAt n p := by
        rw [hgv]; simp; omega
      have hrun := Lib.run_next_ascii_at (P := P) w (ρ.ι r) (toBA l n) p o.type hob hpl' (by rw [hnat]; exact hb)
      rw [hnat] at hrun
      have hheap := Lib.iterAt_heap w (ρ.ι r) (toBA l n) p (p + 1) hob
      have st := H.put hr (.strIter l n (p + 1)) (w' := w.iterAt (ρ.ι r) (toBA l n) (p + 1)) (by simp [World.iterAt]) (fun B hB => by simp [World.iterAt, Array.getElem?_setIfInBounds_ne (Ne.symm hB)]) ⟨hβ, hheap⟩
      refine .val' (v := .tuple [.bool true, .int .i64 p, .int .i32 (byteAt n p : Nat)]) st ⟨trivial, trivial, trivial, trivial⟩ he ?_
      rw [hrun]
      rfl
    · trivial
  · rename_i hpl
    have hpl : ¬ p < l := fun hlt => by
      rw [show Nat.blt p l = true from Nat.ble_eq_true_of_le hlt] at hpl; cases hpl
    refine .pv' (v := .tuple [.bool false]) ⟨trivial, trivial⟩ he ?_
    rw [Lib.run_next_end_at (P := P) w (ρ.ι r) (toBA l n) p o.type hob (by rw [hsz]; exact hpl)]
    rfl
end
end Go.Ev
/-! THE EVALUATOR's SOUNDNESS, 15: map iterators; calls. -/
namespace Go.Ev
open Go
section
variable {E : Env} {P : Program} {ρ : Rho} {h : Hp} {nx : Nat} {w : World} {o : Oper} {a : Act} {tm : PT AV}

theorem filter_centry (ρ : Rho) (es : List (AV × AV × Nat)) (p : Nat → Bool) : (es.map (centry ρ)).toArray.filter (fun e => p e.born) = ((es.filter fun e => p e.2.2).map (centry ρ)).toArray := by
  apply Array.ext'
  simp [List.filter_map, Function.comp_def, centry]
theorem any_centry (ρ : Rho) (es : List (AV × AV × Nat)) (p : Nat → Bool) : (es.map (centry ρ)).toArray.all (fun e => p e.born) = es.all fun e => p e.2.2 := by
  simp [centry, List.all_map, Function.comp_def]
theorem nextMap_ok (H : HR ρ h nx w) {r m since last : Nat} {seen : List Nat} {es : List (AV × AV × Nat)} {c : Nat} (hr : h.get r = some (.mapIter (some m) since seen last)) (hm : mapOf h m = some (es, c))
    (hgone : goneM seen es last = false)
    (he : execOp a.eval o = (do pure (.value (← Instr.next (conc ρ (.ptr r 0)) false o.type)))) :
    OpOk P ρ h nx w o a (nextMap h nx r m since seen es c) := by
  obtain ⟨hlt, hβ, hm', hob⟩ := H.obj _ _ hr
  obtain ⟨g0, g1, g2⟩ := mapOf_ok H hm
  have hat : conc ρ (.ptr r 0) = .pointer (some ⟨ρ.ι r, 0, none⟩) := by simp [conc, Rho.at, hβ]
  rw [hat] at he
  have hobr : (getObj (ρ.ι r)).run P w = .ok (.mapIter (some (ρ.ι m)) since seen.toArray last) w := by simp [getObj, Sem.run, hob]
  have hg : (!seen.toArray.isEmpty && !(es.map (centry ρ)).toArray.isEmpty && (es.map (centry ρ)).toArray.all (fun e => decide (e.born ≥ last))) = false := by
    rw [any_centry ρ es (fun b => decide (b ≥ last))]
    cases seen with
    | nil => rfl
    | cons x seen =>
      cases es with
      | nil => rfl
      | cons e es =>
        simp only [goneM] at hgone
        have : ((e :: es).all fun e => decide (e.2.2 ≥ last)) = ((e :: es).all fun e => Nat.ble last e.2.2) := by
          congr 1; funext x
          rw [Bool.eq_iff_iff]; simp
        rw [this, hgone]; simp
  have hleft : (es.map (centry ρ)).toArray.filter (fun e => !seen.toArray.contains e.born) = ((es.filter fun e => not (memN e.2.2 seen)).map (centry ρ)).toArray := by
    rw [filter_centry ρ es (fun b => !seen.toArray.contains b)]
    congr 2
    apply List.filter_congr
    intro e _
    congr 1
    rw [Bool.eq_iff_iff, memN_iff]
    simp
  unfold nextMap
  split
  · rename_i hnil
    rw [hnil] at hleft
    refine .pv' (v := .tuple [.bool false]) ⟨trivial, trivial⟩ he ?_
    simp only [Instr.next, Sem.run_bind, hobr, Result.andThen_ok, run_getObj_map g2, hg, hleft]
    simp [Question.forced, conc, concs]
  · rename_i e hone
    rw [hone] at hleft
    split
    · rename_i hb
      have hb : e.2.2 < since := Nat.le_of_ble_eq_true hb
      have hmem : e ∈ es := (List.mem_filter.1 (by rw [hone]; exact List.mem_singleton.2 rfl)).1
      obtain ⟨s1, s2⟩ := g1 e hmem
      have hlt2 : ρ.ι r < w.heap.size := (Array.getElem?_eq_some_iff.1 hob).1
      have st := H.put hr (.mapIter (some m) since (seen ++ [e.2.2]) c) (w' := { w with heap := w.heap.setIfInBounds (ρ.ι r) (.mapIter (some (ρ.ι m)) since (seen.toArray.push e.2.2) c) }) (by simp) (fun B hB => by simp [Array.getElem?_setIfInBounds_ne (Ne.symm hB)])
        ⟨hβ, hm', by simp [hlt2]⟩
      refine .val' (v := .tuple [.bool true, e.1, e.2.1]) st ⟨trivial, s1, s2, trivial⟩ he ?_
      have hset : ∀ ob, (setObj (ρ.ι r) ob).run P w = .ok () { w with heap := w.heap.setIfInBounds (ρ.ι r) ob } := fun ob => by simp [setObj, Sem.run, hob]
      have hnb : ¬ since ≤ e.2.2 := by omega
      simp only [Instr.next, Sem.run_bind, hobr, Result.andThen_ok, run_getObj_map g2, hg, hleft]
      simp [centry, hb, hnb, Question.forced, hset, conc, concs]
    · trivial
  · trivial
theorem op_next (hT : TR ρ nx tm a.tmps) (H : HR ρ h nx w) {x : Operand} {b : Bool} (ho : o.op = .next x b) : OpOk P ρ h nx w o a (op1 tm x fun it => nextV h nx it b) := by
  refine .op1 hT x fun v hv0 hv => ?_
  have hexec : execOp a.eval o = (do pure (.value (← Instr.next (conc ρ v) b o.type))) := by simp [execOp, ho, hv]
  unfold nextV
  cases v with
  | ptr r i =>
    cases i with
    | succ i => trivial
    | zero =>
      simp only
      split
      case h_2 => trivial
      rename_i ob hob
      cases ob with
      | strIter l n p =>
        cases b with
        | false => trivial
        | true => exact nextStr_ok H hob hexec
      | mapIter m since seen last =>
        cases b with
        | true => trivial
        | false =>
          simp only
          cases m with
          | none =>
            obtain ⟨hlt, hβ, hm', hob'⟩ := H.obj _ _ hob
            have hat : conc ρ (.ptr r 0) = .pointer (some ⟨ρ.ι r, 0, none⟩) := by simp [conc, Rho.at, hβ]
            rw [hat] at hexec
            refine .pv' (v := .tuple [.bool false]) ⟨trivial, trivial⟩ hexec ?_
            have hobr : (getObj (ρ.ι r)).run P w = .ok (.mapIter none since seen.toArray last) w := by simp [getObj, Sem.run, hob']
            simp [Instr.next, hobr, conc, concs]
          | some m =>
            simp only
            split
            case h_2 => trivial
            rename_i es c hmo
            split
            · trivial
            · rename_i hgone
              exact nextMap_ok H hob hmo hgone hexec
      | _ => trivial
  | _ => trivial
theorem op_entry (hT : TR ρ nx tm a.tmps) (H : HR ρ h nx w) {x : Operand} (ho : o.op = .entry x) : OpOk P ρ h nx w o a (op1 tm x fun it => oV (entryV h it)) := by
  refine .op1 hT x fun v hv0 hv => .oV fun u hu => ?_
  have hexec : execOp a.eval o = (do pure (.value (← Instr.entry (conc ρ v)))) := by simp [execOp, ho, hv]
  unfold entryV at hu
  split at hu
  case h_2 => cases hu
  rename_i r i
  split at hu
  case h_2 => cases hu
  split at hu
  case h_2 => cases hu
  rename_i ob hob
  split at hu
  case h_2 => cases hu
  rename_i m since seen stepped
  split at hu
  case h_2 => cases hu
  rename_i m
  split at hu
  case h_2 => cases hu
  rename_i stamp hst
  split at hu
  case h_2 => cases hu
  rename_i es c hmo
  split at hu
  case h_2 => cases hu
  rename_i hcs
  have hcs : c = stepped := Nat.eq_of_beq_eq_true hcs
  subst hcs
  split at hu
  case h_2 => cases hu
  rename_i j hj
  split at hu
  case h_2 => cases hu
  rename_i e hej
  cases hu
  obtain ⟨hlt, hβ, hm', hob'⟩ := H.obj _ _ hob
  obtain ⟨g0, g1, g2⟩ := mapOf_ok H hmo
  have hat : conc ρ (.ptr r 0) = .pointer (some ⟨ρ.ι r, 0, none⟩) := by simp [conc, Rho.at, hβ]
  rw [hat] at hexec
  have hobr : (getObj (ρ.ι r)).run P w = .ok (.mapIter (some (ρ.ι m)) since seen.toArray c) w := by simp [getObj, Sem.run, hob']
  have hej : es[j]? = some e := by simpa using hej
  obtain ⟨s1, s2⟩ := g1 e (List.mem_of_getElem? hej)
  refine .pv' (v := .tuple [e.1, e.2.1]) ⟨s1, s2, trivial⟩ hexec ?_
  have hback : seen.toArray.back? = some stamp := by simpa using hst
  have hfind : ∀ (l : List (AV × AV × Nat)) (i j : Nat) (e : AV × AV × Nat), findBorn stamp l i = some j → l[j - i]? = some e → (l.map (centry ρ)).find? (fun e => e.born == stamp) = some (centry ρ e) := by
    intro l
    induction l with
    | nil => intro i j e h1 _; cases h1
    | cons x l ih =>
      intro i j e h1 h2
      simp only [findBorn] at h1
      split at h1
      · rename_i hb
        have hb : x.2.2 = stamp := Nat.eq_of_beq_eq_true hb
        cases h1
        rw [Nat.sub_self] at h2
        cases h2
        simp [List.find?, centry, hb]
      · rename_i hb
        have hne : x.2.2 ≠ stamp := fun e0 => by rw [e0] at hb; simp at hb
        have hle := (findBorn_ok (ρ := ρ) stamp l (i + 1) j h1).1
        have h2' : l[j - (i + 1)]? = some e := by
          rw [show j - i = (j - (i + 1)) + 1 from by omega] at h2
          simpa using h2
        have := ih (i + 1) j e h1 h2'
        simp only [List.map_cons, List.find?]
        rw [show ((centry ρ x).born == stamp) = false from by simpa [centry] using hne]
        exact this
  have hf := hfind es 0 j e hj (by simpa using hej)
  have hf' : (es.map (centry ρ)).toArray.find? (fun e => e.born == stamp) = some (centry ρ e) := by simpa using hf
  simp [Instr.entry, hobr, hback, run_getObj_map g2, hf', centry, conc, concs]
end
end Go.Ev
/-! THE EVALUATOR's SOUNDNESS, 16: calls; every operation. -/
namespace Go.Ev
open Go
section
variable {E : Env} {P : Program} {ρ : Rho} {h : Hp} {nx : Nat} {w : World} {o : Oper} {a : Act} {tm : PT AV}

theorem builtin_ok (hE : EnvOk E P) (H : HR ρ h nx w) {b : Builtin} {ts : Array TypeId} {args : List AV} (hargs : Scs nx args) {consts : Array Bool}
    (he : execOp a.eval o = builtin b ts o.type consts (concs ρ args).toArray) : OpOk P ρ h nx w o a (builtinV E h nx b ts.toList args) := by
  unfold builtinV
  split
  · rename_i x
    split
    · rename_i t rest hts
      have ht : ts[0]? = some t := by rw [← Array.getElem?_toList, hts]; rfl
      have hx : Sc nx x := hargs.1
      have he : execOp a.eval o = builtin b ts o.type consts #[conc ρ x] := he
      cases b with
      | len =>
        refine .oV fun y hy => ?_
        obtain ⟨h1, h2⟩ := len_ok (P := P) (ρ := ρ) (ty := o.type) hE H ht hy
        exact .pv' h1 he h2
      | cap =>
        refine .oV fun y hy => ?_
        obtain ⟨h1, h2⟩ := capD_ok (P := P) (ρ := ρ) (nx := nx) (w := w) (ty := o.type) hE ht hy
        exact .pv' h1 he h2
      | clear => exact clear_ok hE H ht he
      | unsafeSliceData =>
        rcases sliceData_pv (h := h) (x := x) with ⟨y, hy⟩ | hy
        · simp only [hy]
          obtain ⟨h1, h2⟩ := sliceData_ok (P := P) (ρ := ρ) (ts := ts) (ty := o.type) H hx hy
          exact .pv' h1 he h2
        · simp only [hy]; trivial
      | min => exact .pv' (v := x) hx he (by simp [Builtin.min_])
      | max => exact .pv' (v := x) hx he (by simp [Builtin.max_])
      | _ => trivial
    · trivial
  · rename_i x y
    have hx : Sc nx x := hargs.1
    have hy : Sc nx y := hargs.2.1
    have he : execOp a.eval o = builtin b ts o.type consts #[conc ρ x, conc ρ y] := he
    cases b with
    | append => exact appendV_ok hE H hx he
    | copy =>
      simp only
      split
      · rename_i t rest hts
        have ht : ts[0]? = some t := by rw [← Array.getElem?_toList, hts]; rfl
        exact copy_ok hE H ht he
      · trivial
    | delete =>
      simp only
      split
      · rename_i t rest hts
        have ht : ts[0]? = some t := by rw [← Array.getElem?_toList, hts]; rfl
        exact delete_ok hE H ht he
      · trivial
    | min =>
      refine .oV fun z hz => ?_
      obtain ⟨h1, h2⟩ := min_ok (P := P) (ρ := ρ) (w := w) (ts := ts) (ty := o.type) hx hz
      exact .pv' h1 he (by simpa [Builtin.min_, concs] using h2)
    | max =>
      refine .oV fun z hz => ?_
      obtain ⟨h1, h2⟩ := max_ok (P := P) (ρ := ρ) (w := w) (ts := ts) (ty := o.type) hx hz
      exact .pv' h1 he (by simpa [Builtin.max_, concs] using h2)
    | unsafeString =>
      simp only
      split
      · rename_i t rest hts
        have ht : ts[0]? = some t := by rw [← Array.getElem?_toList, hts]; rfl
        exact unsafeString_ok hE H he ⟨t, ht⟩
      · trivial
    | _ => trivial
  · trivial
  · rename_i x l _ _
    have hx : Sc nx x := hargs.1
    have he : execOp a.eval o = builtin b ts o.type consts (conc ρ x :: concs ρ l).toArray := he
    cases b with
    | min =>
      refine .oV fun z hz => ?_
      obtain ⟨h1, h2⟩ := min_ok (P := P) (ρ := ρ) (w := w) (ts := ts) (ty := o.type) hx hz
      exact .pv' h1 he (by simpa [Builtin.min_, concs] using h2)
    | max =>
      refine .oV fun z hz => ?_
      obtain ⟨h1, h2⟩ := max_ok (P := P) (ρ := ρ) (w := w) (ts := ts) (ty := o.type) hx hz
      exact .pv' h1 he (by simpa [Builtin.max_, concs] using h2)
    | _ => trivial
theorem args_map (hT : TR ρ nx tm a.tmps) {xs : Array Operand} {vs : List AV} (hv : evalOps tm xs.toList = some vs) : Scs nx vs ∧ xs.map a.eval = (concs ρ vs).toArray := by
  obtain ⟨h1, h2⟩ := evalOps_ok hT hv
  refine ⟨h1, ?_⟩
  apply Array.ext'
  simpa using h2
theorem op_call (hE : EnvOk E P) (hT : TR ρ nx tm a.tmps) (H : HR ρ h nx w) {c : Call} (ho : o.op = .call c) : OpOk P ρ h nx w o a (callOp E tm h nx c) := by
  unfold callOp
  split
  case h_2 => trivial
  rename_i args hargs
  obtain ⟨h1, h2⟩ := args_map hT hargs
  split
  · rename_i b hb
    obtain ⟨consts, he⟩ : ∃ consts, execOp a.eval o = builtin b c.argTypes o.type consts (concs ρ args).toArray :=
      ⟨c.args.map fun | .const _ => true | _ => false, by simp only [execOp, ho, resolve, hb, invoke, h2, pure_bind]; rfl⟩
    exact builtin_ok hE H h1 he
  · rename_i f hf
    refine .op1 hT f fun v hv0 hv => ?_
    cases v with
    | func g first captured =>
      obtain ⟨hv1, hv2⟩ := hv0
      refine ⟨Scs_iff.2 fun u hu => ?_, ?_⟩
      · rcases List.mem_append.1 hu with hu | hu
        · exact Scs_iff.1 hv1 u hu
        · rcases List.mem_append.1 hu with hu | hu
          · exact Scs_iff.1 h1 u hu
          · exact Scs_iff.1 hv2 u hu
      · simp [execOp, ho, resolve, hf, hv, conc, Deferred.ofValue, invoke, h2, concs_eq]
    | _ => trivial
  · trivial
theorem op_defer (hT : TR ρ nx tm a.tmps) {c : Call} (ho : o.op = .defer c) : OpOk P ρ h nx w o a (deferOp tm c) := by
  unfold deferOp
  split
  case h_2 => trivial
  rename_i args hargs
  obtain ⟨h1, h2⟩ := args_map hT hargs
  split
  · rename_i f hf
    refine .op1 hT f fun v hv0 hv => ?_
    cases v with
    | func g first captured =>
      obtain ⟨hv1, hv2⟩ := hv0
      refine ⟨Scs_iff.2 fun u hu => ?_, (concs ρ captured).toArray, (concs ρ first).toArray ++ (concs ρ args).toArray, ?_, ?_⟩
      · rcases List.mem_append.1 hu with hu | hu
        · exact Scs_iff.1 hv1 u hu
        · rcases List.mem_append.1 hu with hu | hu
          · exact Scs_iff.1 h1 u hu
          · exact Scs_iff.1 hv2 u hu
      · simp [concs_eq]
      · simp [execOp, ho, resolve, hf, hv, conc, Deferred.ofValue, h2, concs_eq]
    | _ => trivial
  · trivial
theorem op_ok (hE : EnvOk E P) (hT : TR ρ nx tm a.tmps) (H : HR ρ h nx w) : OpOk P ρ h nx w o a (op E tm h nx o.op) := by
  cases ho : o.op with
  | move x => exact op_move hT ho
  | assign x => exact op_assign hT ho
  | pick c x y => exact op_pick hT ho
  | alloc t =>
    show OpOk P ρ h nx w o a (Option.rec (motive := fun _ => O) .fail (fun z => .val (.ptr nx 0) (h.set nx (newObj t z.cells)) (Nat.succ nx)) (zero E t))
    cases hz : zero E t with
    | none => trivial
    | some z => exact op_alloc hE H ho hz
  | box t x => exact op_box hT H ho
  | build t ps => exact op_build hE hT ho
  | buildSlice t n ps => exact op_buildSlice hE hT H ho
  | insert t m k x => exact op_mapUpdate hE hT H (.inr ho)
  | load t x => exact op_load hE hT H ho
  | store t x y => exact op_store hE hT H ho
  | ready g => trivial
  | waits g => trivial
  | nilCheck x => exact op_nilCheck hT ho
  | binOp b t x y z => exact op_binOp hE hT H ho
  | unOp u t x => exact op_unOp hT ho
  | convert s d x => exact op_convert hE hT H ho
  | sliceToArrayPointer t x => trivial
  | makeInterface t x => exact op_makeInterface hE hT ho
  | makeFunc f x y => exact op_makeFunc hT ho
  | makeMap t r => exact op_makeMap hE hT H ho
  | makeChan t x => trivial
  | makeSlice t x y => exact op_makeSlice hE hT H ho
  | slice t x lo hi mx => exact op_slice hE hT H ho
  | fieldAddr t x i => exact op_fieldAddr hE hT ho
  | field t x i => exact op_field hE hT ho
  | indexAddr t x i => exact op_indexAddr hE hT ho
  | index t x i => exact op_index hE hT ho
  | lookup t x i ok => exact op_lookup hE hT H ho
  | mapUpdate t m k x => exact op_mapUpdate hE hT H (.inl ho)
  | mapEntry t m k => exact op_mapEntry hE hT H ho
  | entryStore t m s x => exact op_entryStore hT H ho
  | range t x => exact op_range hE hT H ho
  | next x b => exact op_next hT H ho
  | entry x => exact op_entry hT H ho
  | typeAssert x t u ok => exact op_typeAssert hE hT ho
  | extract x i => exact op_extract hT ho
  | call c => exact op_call hE hT H ho
  | go c => trivial
  | defer c => exact op_defer hT ho
  | panic x => trivial
  | send x y => trivial
  | recv x y z => trivial
  | select x y => trivial
end
end Go.Ev
