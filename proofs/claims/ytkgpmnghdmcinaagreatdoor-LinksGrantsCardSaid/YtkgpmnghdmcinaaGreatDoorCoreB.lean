/-
  The interpreter tells the truth of regions, calls and operations. Conditions: tables that agree with the program, and what is told of functions without a walk.
-/
import Derived.Test.YtkgpmnghdmcinaaGreatDoorCoreA
import Derived.Laws.MakeOwn
import Derived.Laws.Tables
import Derived.Laws.BytesArg
import Derived.Lib.UnsafeStr
import Derived.OrdersHeld
set_option linter.all false
set_option autoImplicit true
namespace MI
open Go

section
variable {C : Cfg} {S : Nat → Prop} {K : Kf} {η : List Hist} {σ : Mem} {w w' : World} {fr : Fr} {xs : List Value} {a : Act} {o : Oper} {E : Env}

/-! ### New rows of one's own -/
theorem FrOK.consOwn (h : FrOK C K S η w fr xs) {e : TypeId} {ys : List V} {x : Value} {k : Nat} {cells : List Value} (hr : Rel C K [] (.row ys) x) (ho : OwnAt C K S η w e ys x k cells)
    (hne : ∀ (i : Nat) (e' : TypeId) (ys' : List V) (x' : Value) (g : Nat), fr[i]? = some (.own e' ys') → xs[i]? = some x' → x.ownBlock = some g → x'.ownBlock ≠ some g) : FrOK C K S η w (.own e ys :: fr) (x :: xs) := by
  refine ⟨.cons _ _ _ _ (.own _ _ _ hr) h.rel, fun i e' ys' y hi hx => ?_, fun i j e1 y1 x1 e2 y2 x2 g hij hi hx1 hj hx2 hg => ?_⟩
  · cases i with
    | zero =>
      simp only [List.getElem?_cons_zero, Option.some.injEq] at hi hx
      cases hi; subst hx
      exact ⟨k, cells, ho⟩
    | succ i => exact h.own i e' ys' y (by simpa using hi) (by simpa using hx)
  · cases i with
    | zero =>
      simp only [List.getElem?_cons_zero, Option.some.injEq] at hi hx1
      cases hi; subst hx1
      cases j with
      | zero => exact absurd rfl hij
      | succ j => exact hne j e2 y2 x2 g (by simpa using hj) (by simpa using hx2) hg
    | succ i =>
      cases j with
      | zero =>
        simp only [List.getElem?_cons_zero, Option.some.injEq] at hj hx2
        cases hj; subst hx2
        intro hg2
        exact hne i e1 y1 x1 g (by simpa using hi) (by simpa using hx1) hg2 hg
      | succ j => exact h.apart i j e1 y1 x1 e2 y2 x2 g (by omega) (by simpa using hi) (by simpa using hx1) (by simpa using hj) (by simpa using hx2) hg

theorem To.ownNew (hi : Inv C K S η σ w) (hf : FrOK C K S η w fr xs) (hF : Fresh S w) {arr : Array Value} {e : TypeId} (hw : w'.heap = w.heap.push (.cells arr e (0, 0))) (h1 : w'.os = w.os) (h2 : w'.tape = w.tape) (h3 : w'.output = w.output)
    {k cap : Nat} {ys : List V} (hk : C.siz e = some k) (h0 : 0 < k) (hs : arr.size = cap * k) (hn : ys.length ≤ cap) (hm : cap ≤ maxLen) (hr : RelL C K [] (flatV ys) (arr.toList.take (ys.length * k))) (heach : ∀ y ∈ ys, y.cells.length = k) (hone : oneL (flatV ys) = true) :
    To C S K η w (addK K w.heap.size (arr.toList.take (ys.length * k))) η σ w' (.own e ys :: fr) (.slice (some ⟨w.heap.size, 0, none⟩) ys.length cap :: xs) := by
  have hto := To.newK (w' := w') hi hf hF hw h1 h2 h3 (arr.toList.take (ys.length * k)) (fun j c hj => by
    rw [List.getElem?_take] at hj
    split at hj
    · simpa using hj
    · cases hj)
  have hlen : (arr.toList.take (ys.length * k)).length = ys.length * k := by rw [← hr.length, length_flatV heach]
  have hr' := hr.mono hto.kle (Hle.refl _)
  refine ⟨hto.kle, hto.kin, hto.hle, hto.chg, hto.inv, hto.fr.consOwn (k := k) (cells := arr.toList.take (ys.length * k)) ?_ ?_ ?_⟩
  · exact .row ys w.heap.size 0 cap k _ hn heach hone (addK_holds _ _ _) hr'
  · refine ⟨hk, h0, ⟨hlen, .inr ⟨w.heap.size, cap, arr, rfl, Nat.zero_le _, by rw [hw]; simp, hn, hm, hs, rfl⟩⟩, hr', heach, hone, fun g hg => ?_⟩
    simp only [Value.ownBlock, Option.some.injEq] at hg
    subst hg
    refine ⟨hF _ (Nat.le_refl _), fun ad c hc hb => ?_, fun ht => ?_⟩
    · unfold addK at hc
      split at hc
      · have := (List.getElem?_eq_some_iff.1 hc).1
        omega
      · exact absurd (hi.kblock hc) (by omega)
    · have := (hi.tlt _ ht).1
      omega
  · intro i e' ys' x' g hi' hx' hg hg'
    simp only [Value.ownBlock, Option.some.injEq] at hg
    have := (hf.ownBlk hi' hx' hg').1
    omega

/-! ### Boxes -/
theorem ok_box (hG : GlobOK C K) (hi : Inv C K S η σ w) (hf : FrOK C K S η w fr a.tmps.toList) (hF : Fresh S w) (e : TypeId) (x : Operand) (ho : o.op = .box e x) (h1 : oneL (evalV C fr x).un.cells = true) :
    OpOK C S K η w a o (.ptr σ.length 0 0) fr (σ ++ [⟨(evalV C fr x).un.cells, e, 0, false, false, 0⟩]) True := by
  have hr := (evalV_rel hG hf.rel x).un.cells h1
  have hl : (evalV C fr x).un.cells.length = (a.eval x).cells.size := by rw [hr.length]; simp
  have hto := To.alloc hi hf hF (w' := w.alloc (.cells (a.eval x).cells e)) (arr := (a.eval x).cells) (ty := e) (fz := (0, 0)) rfl rfl rfl rfl (evalV C fr x).un.cells false 0 (by rw [hl, List.take_of_length_le (by simp)]; exact hr) (by omega) h1 (.inl rfl) (by simp) (by simp) (fun _ _ => hl.symm)
  refine .value (x := .pointer (some ⟨w.heap.size, 0, none⟩)) ?_ ⟨hto.kle, hto.kin, hto.hle, hto.chg, hto.inv, hto.fr.cons (.ptr _ _ _ _ 0 (fun g => if g = 0 then some (w.heap.size, 0) else none) ?_ (by simp)) (by simp)⟩ (fun _ => Chg.alloc _ w _)
  · simp only [execOp, ho]
    refine run_v _ _ _ ?_
    simp [Instr.box, newVar, Go.newRow]
  · rw [List.getElem?_append_right (by rw [hi.len]; exact Nat.le_refl _)]; simp [hi.len]

theorem ok_boxImm (hG : GlobOK C K) (hi : Inv C K S η σ w) (hf : FrOK C K S η w fr a.tmps.toList) (hF : Fresh S w) (e : TypeId) (x : Operand) (ho : o.op = .box e x) (h0 : (evalV C fr x).unD.low 0 = true) (h1 : oneL (evalV C fr x).unD.cells = true) :
    OpOK C S K η w a o (.eptr (evalV C fr x).unD 0) fr σ True := by
  have hr := ((evalV_rel hG hf.rel x).unD.low 0 h0).cells h1
  rw [List.take_zero] at hr
  have hto := To.newK (w' := w.alloc (.cells (a.eval x).cells e)) hi hf hF rfl rfl rfl rfl (a.eval x).cells.toList (fun j c hj => by simpa using hj)
  refine .value (x := .pointer (some ⟨w.heap.size, 0, none⟩)) ?_ ⟨hto.kle, hto.kin, hto.hle, hto.chg, hto.inv, hto.fr.cons (.eptr _ 0 w.heap.size 0 (a.eval x).cells.toList (addK_holds _ _ _) (hr.mono hto.kle (Hle.refl _)) h1) (by simp)⟩ (fun _ => Chg.alloc _ w _)
  simp only [execOp, ho]
  refine run_v _ _ _ ?_
  simp [Instr.box, newVar, Go.newRow]

/-! ### Parts laid over cells -/
theorem setRange_eq {α : Type} : ∀ (vs cs : List α) (off : Nat), off + vs.length ≤ cs.length → setRange cs off vs = cs.take off ++ vs ++ cs.drop (off + vs.length)
  | [], cs, off, _ => by simp [setRange]
  | v :: r, cs, off, h => by
    simp only [List.length_cons] at h
    rw [setRange, setRange_eq r (cs.set off v) (off + 1) (by simp; omega)]
    have h1 : off < cs.length := by omega
    rw [List.take_set, List.drop_set, if_pos (by omega)]
    have h2 : (cs.take (off + 1)).set off v = cs.take off ++ [v] := by
      rw [List.take_succ_eq_append_getElem h1, List.set_append, if_neg (by simp; omega)]
      simp [Nat.min_eq_left (Nat.le_of_lt h1)]
    rw [h2]
    simp [Nat.add_assoc, Nat.add_comm 1]

theorem foldl_set (off : Nat) : ∀ (vs : List Value) (n : Nat) (cs : Array Value), (List.foldl (fun cs (c : Value × Nat) => cs.setIfInBounds (off + c.2) c.1) cs (vs.zipIdx n)).toList = setRange cs.toList (off + n) vs
  | [], n, cs => by simp [setRange]
  | v :: r, n, cs => by
    simp only [List.zipIdx_cons, List.foldl_cons, setRange]
    rw [foldl_set off r (n + 1) (cs.setIfInBounds (off + n) v)]
    simp [Nat.add_assoc]

inductive PRel (C : Cfg) (K : Kf) (η : List Hist) : List (Nat × V) → List (Nat × Value) → Prop
  | nil : PRel C K η [] []
  | cons (i : Nat) (v : V) (x : Value) (r : List (Nat × V)) (s : List (Nat × Value)) (h : Rel C K η v x) (t : PRel C K η r s) : PRel C K η ((i, v) :: r) ((i, x) :: s)

theorem evalP_rel (hG : GlobOK C K) (hr : RelL C K η fr a.tmps.toList) : ∀ ps : List (Nat × Operand), PRel C K η (evalP C fr ps) (ps.map fun (i, x) => (i, a.eval x))
  | [] => .nil
  | p :: r => .cons _ _ _ _ _ (evalV_rel hG hr p.2).un (evalP_rel hG hr r)

theorem layV_run {place : Nat → Option (Nat × Nat)} : ∀ {ps : List (Nat × V)} {qs : List (Nat × Value)}, PRel C K η ps qs → ∀ {cs : List V} {arr : Array Value} {cs' : List V}, RelL C K η cs arr.toList → layV place cs ps = some cs' →
    ∃ arr', Instr.fill place arr qs = some arr' ∧ RelL C K η cs' arr'.toList ∧ (oneL cs = true → oneL cs' = true) ∧ cs'.length = cs.length
  | _, _, .nil, cs, arr, cs', hr, h => by
    simp only [layV, Option.some.injEq] at h
    subst h
    exact ⟨arr, rfl, hr, id, rfl⟩
  | _, _, .cons i v x r s hv ht, cs, arr, cs', hr, h => by
    simp only [layV] at h
    split at h
    · rename_i off size hp
      split at h
      · rename_i hc
        obtain ⟨c1, c2, c3⟩ := hc
        have hvc := hv.cells c3
        have hl : x.cells.size = size := by have := hvc.length; simp at this; omega
        have hal : cs.length = arr.size := by have := hr.length; simpa using this
        obtain ⟨arr', e1, e2, e3, e4⟩ := layV_run (place := place) ht (arr := (x.cells.zipIdx.foldl (fun cs (c, j) => cs.setIfInBounds (off + j) c) arr)) (by
          have := foldl_set off x.cells.toList 0 arr
          rw [← Array.foldl_toList, Array.toList_zipIdx]
          rw [this]
          exact RelL.setRange hvc hr off) h
        refine ⟨arr', ?_, e2, fun ho => e3 (oneL_setRange _ _ _ ho c3), by rw [e4, length_setRange]⟩
        simp only [Instr.fill, hp, hl]
        rw [if_neg (by simp; omega)]
        exact e1
      · cases h
    · cases h

theorem placesV_run (hS : Good C) : ∀ {fs : List Field} {ps : List (Nat × Nat)}, placesV C fs = some ps → fs.mapM (fun f => (C.P.info? f.type).map fun i => (f.offset, i.size)) = some ps
  | [], ps, h => by simp only [placesV, Option.some.injEq] at h; subst h; rfl
  | f :: r, ps, h => by
    simp only [placesV] at h
    split at h
    · rename_i n l hn hl
      cases h
      obtain ⟨i, h1, h2, _⟩ := hS.siz _ _ hn
      simp [List.mapM_cons, h1, h2, placesV_run hS hl]
    · cases h

theorem zero_cells (hS : Good C) {t : TypeId} {z : V} (h : C.zero t = some z) : ∃ i zr, C.P.info? t = some i ∧ i.zero = some zr ∧ RelL C K η z.cells zr.cells.toList ∧ oneL z.cells = true ∧ z.cells.length = i.size ∧ zr.cells.size = i.size := by
  obtain ⟨i, zr, h1, h2, rfl, h4, h5⟩ := hS.zero t z h
  have hr := (cv_rel (C := C) (K := K) (η := η) zr).cells h4
  exact ⟨i, zr, h1, h2, hr, h4, h5, by have := hr.length; simp at this; omega⟩

theorem ok_buildStruct (hS : Good C) (hG : GlobOK C K) (hf : FrOK C K S η w fr a.tmps.toList) (t : TypeId) (parts : Array (Nat × Operand)) (ho : o.op = .build t parts) {z : V} (hz : C.zero t = some z) {fs : Array Field} (hu : C.und t = some (.struct fs))
    {ps : List (Nat × Nat)} (hp : placesV C fs.toList = some ps) {cs : List V} (h : layV (fun i => ps[i]?) z.cells (evalP C fr parts.toList) = some cs) : Still C S K η w a o (.agg cs) fr (fun _ => True) := by
  obtain ⟨i, zr, h1, h2, hr, h4, h5, _⟩ := zero_cells (K := K) (η := η) hS hz
  obtain ⟨arr', e1, e2, _, _⟩ := layV_run (evalP_rel hG hf.rel parts.toList) hr h
  refine .mk0 hf (x := .agg arr') (fun w => ?_) (.agg _ _ e2) (by simp)
  simp only [execOp, ho]
  refine run_v _ _ _ ?_
  have hpl := run_places (P := C.P) w fs.toList ps (placesV_run hS hp)
  simp [Instr.build, run_underlying (hS.und t _ hu), zeroValue, typeInfo, h1, h2, Array.mapM_eq_mapM_toList, hpl, e1]

theorem ok_buildArray (hS : Good C) (hG : GlobOK C K) (hf : FrOK C K S η w fr a.tmps.toList) (t : TypeId) (parts : Array (Nat × Operand)) (ho : o.op = .build t parts) {z : V} (hz : C.zero t = some z) {n : Nat} {e : TypeId} (hu : C.und t = some (.array n e))
    {k : Nat} (hk : C.siz e = some k) {cs : List V} (h : layV (fun i => some (i * k, k)) z.cells (evalP C fr parts.toList) = some cs) : Still C S K η w a o (.agg cs) fr (fun _ => True) := by
  obtain ⟨i, zr, h1, h2, hr, h4, h5, _⟩ := zero_cells (K := K) (η := η) hS hz
  obtain ⟨arr', e1, e2, _, _⟩ := layV_run (evalP_rel hG hf.rel parts.toList) hr h
  refine .mk0 hf (x := .agg arr') (fun w => ?_) (.agg _ _ e2) (by simp)
  simp only [execOp, ho]
  refine run_v _ _ _ ?_
  simp [Instr.build, run_underlying (hS.und t _ hu), zeroValue, typeInfo, h1, h2, siz_run hS hk, e1]

end
end MI

namespace MI
open Go

theorem get_repL {α : Type} {l : List α} (h : 0 < l.length) : ∀ (n j : Nat), (repL l n)[j]? = if j < n * l.length then l[j % l.length]? else none
  | 0, j => by simp [repL]
  | n + 1, j => by
    rw [repL]
    by_cases hj : j < l.length
    · rw [List.getElem?_append_left hj, Nat.mod_eq_of_lt hj, if_pos (by rw [Nat.add_mul]; omega)]
    · rw [List.getElem?_append_right (by omega), get_repL h n, Nat.mod_eq_sub_mod (show j ≥ l.length by omega)]
      have : j - l.length < n * l.length ↔ j < (n + 1) * l.length := by rw [Nat.add_mul]; omega
      by_cases h2 : j < (n + 1) * l.length
      · rw [if_pos h2, if_pos (this.2 h2)]
      · rw [if_neg h2, if_neg (fun h3 => h2 (this.1 h3))]

theorem length_repL {α : Type} (l : List α) : ∀ n, (repL l n).length = n * l.length
  | 0 => by simp [repL]
  | n + 1 => by rw [repL, List.length_append, length_repL l n, Nat.add_mul]; omega

theorem madeCells_rep (z : Array Value) (n : Nat) (h : 0 < z.size) : (madeCells z (n * z.size)).toList = repL z.toList n := by
  apply List.ext_getElem?
  intro j
  rw [get_repL (by simpa using h)]
  simp only [madeCells, Array.toList_map, Array.toList_range, List.getElem?_map, Array.length_toList]
  by_cases hj : j < n * z.size
  · rw [if_pos hj, List.getElem?_eq_getElem (by simpa using hj)]
    simp only [List.getElem_range, Option.map_some]
    have hm : j % z.size < z.size := Nat.mod_lt _ h
    simp [hm]
  · rw [if_neg hj, List.getElem?_eq_none (by simp; omega)]
    rfl

theorem oneL_rep {cs : List V} (h : oneL cs = true) : ∀ n, oneL (repL cs n) = true
  | 0 => rfl
  | n + 1 => by rw [repL, oneL_append, h, oneL_rep h n]; rfl

theorem V.one_unD {v : V} (h : v.one = true) : v.unD.one = true := by cases v <;> simp [V.one] at h <;> simp [V.unD, V.one]
theorem oneL_unDL {cs : List V} (h : oneL cs = true) : oneL (unDL cs) = true := by
  induction cs with
  | nil => rfl
  | cons x r ih =>
    simp only [oneL, Bool.and_eq_true] at h
    simp [unDL, oneL, V.one_unD h.1, ih h.2]
theorem length_unDL (cs : List V) : (unDL cs).length = cs.length := by
  induction cs with
  | nil => rfl
  | cons x r ih => simp [unDL, ih]
mutual
theorem low_unD (n : Nat) : (v : V) → v.low n = true → v.unD.low n = true
  | .own _ _, _ => rfl
  | .nils, _ => rfl
  | .agg cs, h => by simpa [V.unD, V.low] using lowL_unDL n cs (by simpa [V.low] using h)
  | .tuple cs, h => by simpa [V.unD, V.low] using lowL_unDL n cs (by simpa [V.low] using h)
  | .iface t v, h => by simpa [V.unD, V.low] using low_unD n v (by simpa [V.low] using h)
  | .bool _, h | .int _ _, h | .str _, h | .nilptr, h | .ptr _ _ _, h | .eptr _ _, h | .row _, h | .msl _ _ _ _ _, h | .func _ _ _, h | .nilfn, h | .niliface, h | .junk, h => by simpa [V.unD] using h
theorem lowL_unDL (n : Nat) : (vs : List V) → lowL n vs = true → lowL n (unDL vs) = true
  | [], _ => rfl
  | v :: r, h => by
    simp only [lowL, Bool.and_eq_true] at h
    simp [unDL, lowL, low_unD n v h.1, lowL_unDL n r h.2]
end

section
variable {C : Cfg} {S : Nat → Prop} {K : Kf} {η : List Hist} {σ : Mem} {w w' : World} {fr : Fr} {xs : List Value} {a : Act} {o : Oper} {E : Env}

theorem RelL.rep {cs : List V} {vs : List Value} (h : RelL C K η cs vs) : ∀ n, RelL C K η (repL cs n) (repL vs n)
  | 0 => .nil
  | n + 1 => h.append (RelL.rep h n)

theorem elemT_und {t e : TypeId} (h : elemT C t = some e) : C.und t = some (.slice e) := by
  unfold elemT at h
  split at h
  · rename_i e' hu; cases h; exact hu
  · cases h

theorem buildSlice_run (hS : Good C) (hG : GlobOK C K) (hr : RelL C K η fr a.tmps.toList) {t e : TypeId} {len k : Nat} {parts : Array (Nat × Operand)} (ho : o.op = .buildSlice t len parts) (he : elemT C t = some e) {z : V} (hz : C.zero e = some z) (hk : C.siz e = some k)
    (hzk : z.cells.length = k) (h0 : 0 < k) (hlen : len * k ≤ 16777216) {cs : List V} (h : layV (fun i => some (i * k, k)) (repL z.cells len) (evalP C fr parts.toList) = some cs) :
    ∃ arr, (execOp a.eval o).run C.P w = .ok (.value (.slice (some ⟨w.heap.size, 0, none⟩) len len)) (w.alloc (.cells arr e)) ∧ RelL C K η cs arr.toList ∧ cs.length = len * k ∧ oneL cs = true := by
  obtain ⟨i, zr, h1, h2, hzr, h4, h5, h6⟩ := zero_cells (K := K) (η := η) hS hz
  have hsz : zr.cells.size = k := by omega
  have hmade : RelL C K η (repL z.cells len) (madeCells zr.cells (len * k)).toList := by
    rw [← hsz, madeCells_rep _ _ (by omega)]
    exact hzr.rep len
  obtain ⟨arr', e1, e2, e3, e4⟩ := layV_run (evalP_rel hG hr parts.toList) hmade h
  refine ⟨arr', ?_, e2, by rw [e4, length_repL, hzk], e3 (oneL_rep h4 _)⟩
  simp only [execOp, ho]
  refine run_v _ _ _ ?_
  have hn : ¬ 2 ^ 24 < len * k := by omega
  by_cases hl : len * k = 0
  · have hm : madeCells zr.cells (len * k) = #[] := by rw [hl]; simp [madeCells]
    rw [hm] at e1
    simp [Instr.buildSlice, run_underlying (hS.und t _ (elemT_und he)), siz_run hS hk, hl, e1, Go.newRow, Array.range_zero']
  · have hl1 : ¬ len = 0 := fun e => hl (by simp [e])
    have hl2 : ¬ k = 0 := by omega
    have hn2 : ¬ 16777216 < len * k := by omega
    simp only [madeCells] at e1
    simp [Instr.buildSlice, run_underlying (hS.und t _ (elemT_und he)), siz_run hS hk, hl, hl1, hl2, hn2, zeroValue, typeInfo, h1, h2, e1, Go.newRow]

theorem ok_buildSliceOwn (hS : Good C) (hG : GlobOK C K) (hi : Inv C K S η σ w) (hf : FrOK C K S η w fr a.tmps.toList) (hF : Fresh S w) {t e : TypeId} {len k : Nat} {parts : Array (Nat × Operand)} (ho : o.op = .buildSlice t len parts) (he : elemT C t = some e) {z : V} (hz : C.zero e = some z) (hk : C.siz e = some k)
    (hzk : z.cells.length = k) (h0 : 0 < k) (hlen : len * k ≤ 16777216) {agg : Bool} (hagg : agg = true ∨ k = 1) {cs : List V} (h : layV (fun i => some (i * k, k)) (repL z.cells len) (evalP C fr parts.toList) = some cs) (hlow : lowL 0 cs = true) :
    OpOK C S K η w a o (.own e (elems agg k len (unDL cs))) fr σ True := by
  obtain ⟨arr, h1, h2, h3, h4⟩ := buildSlice_run (w := w) hS hG hf.rel ho he hz hk hzk h0 hlen h
  obtain ⟨f1, f2, f3⟩ := elems_flat agg k h0 hagg len (unDL cs) (by rw [length_unDL]; omega) (oneL_unDL h4)
  have hf1 : flatV (elems agg k len (unDL cs)) = unDL cs := by rw [f1, List.take_of_length_le (by rw [length_unDL]; omega)]
  have hr0 := h2.unD.low 0 (lowL_unDL 0 cs hlow)
  rw [List.take_zero] at hr0
  have hal : arr.size = len * k := by have := h2.length; simp at this; omega
  have hto := To.ownNew (w' := w.alloc (.cells arr e)) (arr := arr) (e := e) (k := k) (cap := len) (ys := elems agg k len (unDL cs)) hi hf hF rfl rfl rfl rfl hk h0 hal (by omega)
    (by have : len ≤ len * k := Nat.le_mul_of_pos_right _ h0
        simp only [maxLen]; omega) (by rw [hf1, f3, List.take_of_length_le (by simp; omega)]; exact hr0) f2 (by rw [hf1]; exact oneL_unDL h4)
  rw [f3] at hto
  exact .value h1 hto (fun _ => Chg.alloc _ w _)

/-- A new row that may be written, and appended to. -/
theorem To.mslNew (hi : Inv C K S η σ w) (hf : FrOK C K S η w fr xs) (hF : Fresh S w) {arr : Array Value} {e : TypeId} (hw : w'.heap = w.heap.push (.cells arr e (0, 0))) (h1 : w'.os = w.os) (h2 : w'.tape = w.tape) (h3 : w'.output = w.output)
    {k cap len : Nat} {cs : List V} (hk : C.siz e = some k) (h0 : 0 < k) (hs : arr.size = cap * k) (hn : len ≤ cap) (hm : cap ≤ maxLen) (hp : 0 < cap) (hr : RelL C K η cs (arr.toList.take cs.length)) (hl : cs.length ≤ arr.size) (hone : oneL cs = true) :
    To C S K η w K (η ++ [fun g => if g = 0 then some (w.heap.size, cap) else none]) (σ ++ [⟨cs, e, 0, false, true, 0⟩]) w' (.msl σ.length 0 0 len e :: fr) (.slice (some ⟨w.heap.size, 0, none⟩) len cap :: xs) := by
  have hto := To.alloc hi hf hF hw h1 h2 h3 cs true cap hr hl hone (.inl rfl) (by simp) (fun _ => ⟨rfl, k, hk, h0, hs, hm, hp⟩) (fun h => by cases h)
  refine ⟨hto.kle, hto.kin, hto.hle, hto.chg, hto.inv, hto.fr.cons ?_ (by simp)⟩
  have := Rel.msl (C := C) (K := K) (η := η ++ [fun g => if g = 0 then some (w.heap.size, cap) else none]) σ.length 0 0 len e w.heap.size cap k cap (fun g => if g = 0 then some (w.heap.size, cap) else none)
    (by rw [List.getElem?_append_right (by rw [hi.len]; exact Nat.le_refl _)]; simp [hi.len]) (by simp) hk hn (fun _ => ⟨by omega, by omega⟩)
  simpa using this

theorem ok_buildSliceMsl (hS : Good C) (hG : GlobOK C K) (hi : Inv C K S η σ w) (hf : FrOK C K S η w fr a.tmps.toList) (hF : Fresh S w) {t e : TypeId} {len k : Nat} {parts : Array (Nat × Operand)} (ho : o.op = .buildSlice t len parts) (he : elemT C t = some e) {z : V} (hz : C.zero e = some z) (hk : C.siz e = some k)
    (hzk : z.cells.length = k) (h0 : 0 < k) (hlen : len * k ≤ 16777216) {cs : List V} (h : layV (fun i => some (i * k, k)) (repL z.cells len) (evalP C fr parts.toList) = some cs) (hl0 : len ≠ 0) :
    OpOK C S K η w a o (newRow σ e cs len true).1 fr (newRow σ e cs len true).2 True := by
  obtain ⟨arr, h1, h2, h3, h4⟩ := buildSlice_run (w := w) hS hG hf.rel ho he hz hk hzk h0 hlen h
  have hal : arr.size = len * k := by have := h2.length; simp at this; omega
  exact .value h1 (To.mslNew (w' := w.alloc (.cells arr e)) hi hf hF rfl rfl rfl rfl hk h0 hal (Nat.le_refl _) (by
    have : len ≤ len * k := Nat.le_mul_of_pos_right _ h0
    simp only [maxLen]; omega) (by omega) (by rw [List.take_of_length_le (by simp; omega)]; exact h2) (by omega) h4) (fun _ => Chg.alloc _ w _)

theorem ok_buildSliceMut (hS : Good C) (hG : GlobOK C K) (hi : Inv C K S η σ w) (hf : FrOK C K S η w fr a.tmps.toList) (hF : Fresh S w) {t e : TypeId} {len k : Nat} {parts : Array (Nat × Operand)} (ho : o.op = .buildSlice t len parts) (he : elemT C t = some e) {z : V} (hz : C.zero e = some z) (hk : C.siz e = some k)
    (hzk : z.cells.length = k) (h0 : 0 < k) (hlen : len * k ≤ 16777216) {cs : List V} (h : layV (fun i => some (i * k, k)) (repL z.cells len) (evalP C fr parts.toList) = some cs) :
    OpOK C S K η w a o (newRow σ e cs len false).1 fr (newRow σ e cs len false).2 True := by
  obtain ⟨arr, h1, h2, h3, h4⟩ := buildSlice_run (w := w) hS hG hf.rel ho he hz hk hzk h0 hlen h
  have hal : arr.size = len * k := by have := h2.length; simp at this; omega
  have hto := To.alloc (w' := w.alloc (.cells arr e)) (arr := arr) (ty := e) (fz := (0, 0)) hi hf hF rfl rfl rfl rfl cs false 0 (by rw [List.take_of_length_le (by simp; omega)]; exact h2) (by omega) h4 (.inl rfl) (by simp) (by simp) (fun _ _ => by have := h2.length; simp at this; omega)
  refine .value h1 ⟨hto.kle, hto.kin, hto.hle, hto.chg, hto.inv, hto.fr.cons ?_ (by simp [newRow])⟩ (fun _ => Chg.alloc _ w _)
  have := Rel.msl (C := C) (K := K) (η := η ++ [fun g => if g = 0 then some (w.heap.size, 0) else none]) σ.length 0 0 len e w.heap.size 0 k len (fun g => if g = 0 then some (w.heap.size, 0) else none)
    (by rw [List.getElem?_append_right (by rw [hi.len]; exact Nat.le_refl _)]; simp [hi.len]) (by simp) hk (Nat.le_refl _) (fun h => by omega)
  simpa [newRow] using this

theorem ok_makeSlice (hS : Good C) (hG : GlobOK C K) (hi : Inv C K S η σ w) (hf : FrOK C K S η w fr a.tmps.toList) (hF : Fresh S w) {t e : TypeId} {l c : Operand} (ho : o.op = .makeSlice t l c) {ln cn : Int} (hl : evalV C fr l = .int .i64 ln) (hc : evalV C fr c = .int .i64 cn)
    (he : elemT C t = some e) {z : V} (hz : C.zero e = some z) {k : Nat} (hk : C.siz e = some k) (hzk : z.cells.length = k) (h0 : 0 < k) (hb : 0 ≤ ln ∧ ln ≤ cn ∧ cn ≤ (mostRow : Int)) :
    (ln = 0 → OpOK C S K η w a o (.own e []) fr σ True) ∧ (ln ≠ 0 → OpOK C S K η w a o (newRow σ e (repL z.cells ln.toNat) ln.toNat true).1 fr (newRow σ e (repL z.cells ln.toNat) ln.toNat true).2 True) := by
  obtain ⟨i, zr, h1, h2, hzr, h4, h5, h6⟩ := zero_cells (K := K) (η := η) hS hz
  obtain ⟨i', h1', hsz', hby⟩ := hS.siz _ _ hk
  rw [h1] at h1'; cases h1'
  have hlr : a.eval l = .int .i64 ln := rel_int (by rw [← hl]; exact evalV_rel hG hf.rel l)
  have hcr : a.eval c = .int .i64 cn := rel_int (by rw [← hc]; exact evalV_rel hG hf.rel c)
  have hm : (i.bytes : Int) * cn ≤ 281474976710656 := by
    have h7 : (i.bytes : Int) * cn ≤ 32768 * cn := Int.mul_le_mul_of_nonneg_right (by omega) (by omega)
    simp only [mostRow] at hb
    omega
  have hrun := run_make (P := C.P) w t e i zr (hS.und t _ (elemT_und he)) h1 h2 .i64 .i64 ln cn hb.1 hb.2.1 hm (by simp only [mostRow] at hb; omega)
  have hex : (execOp a.eval o).run C.P w = .ok (.value (.slice (some ⟨w.heap.size, 0, none⟩) ln.toNat cn.toNat)) (w.alloc (.cells (madeCells zr.cells (cn.toNat * i.size)) e)) := by
    simp only [execOp, ho, hlr, hcr]
    exact run_v _ _ _ hrun
  have hasz : (madeCells zr.cells (cn.toNat * i.size)).size = cn.toNat * k := by rw [size_madeCells, hsz']
  have hcm : cn.toNat ≤ maxLen := by simp only [mostRow] at hb; simp only [maxLen]; omega
  constructor
  · intro hz0
    subst hz0
    have hto := To.ownNew (w' := w.alloc (.cells (madeCells zr.cells (cn.toNat * i.size)) e)) (arr := madeCells zr.cells (cn.toNat * i.size)) (e := e) (k := k) (cap := cn.toNat) (ys := []) hi hf hF rfl rfl rfl rfl hk h0 hasz (by simp) hcm (by simpa [flatV] using RelL.nil) (by simp) rfl
    exact .value hex hto (fun _ => Chg.alloc _ w _)
  · intro hz0
    have hlen : (repL z.cells ln.toNat).length = ln.toNat * k := by rw [length_repL, hzk]
    have hle : ln.toNat * k ≤ cn.toNat * k := Nat.mul_le_mul_right _ (by omega)
    refine .value hex (To.mslNew (w' := w.alloc (.cells (madeCells zr.cells (cn.toNat * i.size)) e)) hi hf hF rfl rfl rfl rfl hk h0 hasz (by omega) hcm (by omega) ?_ (by rw [hlen, hasz]; exact hle) (oneL_rep h4 _)) (fun _ => Chg.alloc _ w _)
    have hk2 : zr.cells.size = k := by omega
    have hr2 : RelL C K η (repL z.cells cn.toNat) (madeCells zr.cells (cn.toNat * i.size)).toList := by
      rw [hsz', ← hk2, madeCells_rep _ _ (by omega)]
      exact hzr.rep _
    have hr3 := hr2.take (ln.toNat * k)
    have ht : (repL z.cells cn.toNat).take (ln.toNat * k) = repL z.cells ln.toNat := by
      apply List.ext_getElem?
      intro j
      rw [List.getElem?_take, get_repL (by omega), get_repL (by omega), hzk]
      by_cases hj : j < ln.toNat * k
      · simp only [if_pos hj, if_pos (Nat.lt_of_lt_of_le hj hle)]
      · simp only [if_neg hj]
    rw [ht] at hr3
    rw [hlen]
    exact hr3

end
end MI

namespace MI
open Go

section
variable {P : Program} (w : World)

theorem notInt {d : TypeDesc} (hd : ∀ k, d ≠ .int k) : (match d with | .int _ => true | _ => false) = false := by
  cases d <;> first | rfl | exact absurd rfl (hd _)

theorem run_app_room (t t' ty e : TypeId) (i : TypeInfo) (d : TypeDesc) (ht : P.underlying t = some (.slice e)) (hu : P.underlying t' = some d) (hd : ∀ k, d ≠ .int k) (hi : P.info? e = some i)
    (g sLen sCap : Nat) (cur : Array Value) (hg : w.heap[g]? = some (.cells cur e (0, 0)))
    (X : Value) (m : Nat) (news : List Value) (hX : ∀ w2, (Builtin.lenOf X).run P w2 = .ok m w2) (hf : ∀ w2 : World, w2.heap = w.heap → (Builtin.firstCells i.size m X).run P w2 = .ok news.toArray w2) (hl : news.length = m * i.size) (h1 : ∀ u ∈ news, u.oneCell' = true)
    (hroom : sLen + m ≤ sCap) (hfit : sLen * i.size + news.length ≤ cur.size) :
    (Builtin.append_ #[t, t'] ty #[.slice (some ⟨g, 0, none⟩) sLen sCap, X]).run P w =
      .ok (.slice (some ⟨g, 0, none⟩) (sLen + m) sCap) (w.setRow g (cur.toList.take (sLen * i.size) ++ news ++ cur.toList.drop (sLen * i.size + news.length)).toArray) := by
  have hst := run_storeCells_at P g (sLen * i.size) e news 0 cur w hg (by simpa using hfit) h1
  simp only [Nat.add_zero] at hst
  simp [Builtin.append_, run_underlying ht, run_underlying hu, notInt hd, Go.sizeOf, typeInfo, hi, hX, hroom, hf w rfl, Addr.add_lit, hst]

theorem run_app_none (t t' ty e : TypeId) (i : TypeInfo) (d : TypeDesc) (ht : P.underlying t = some (.slice e)) (hu : P.underlying t' = some d) (hd : ∀ k, d ≠ .int k) (hi : P.info? e = some i)
    (X : Value) (hX : ∀ w2, (Builtin.lenOf X).run P w2 = .ok 0 w2) (hf : ∀ w2 : World, w2.heap = w.heap → (Builtin.firstCells i.size 0 X).run P w2 = .ok #[] w2) :
    (Builtin.append_ #[t, t'] ty #[.slice none 0 0, X]).run P w = .ok (.slice none 0 0) w := by
  simp [Builtin.append_, run_underlying ht, run_underlying hu, notInt hd, Go.sizeOf, typeInfo, hi, hX, hf w rfl]

theorem run_app_grow (t t' ty e : TypeId) (i : TypeInfo) (z : Value) (d : TypeDesc) (ht : P.underlying t = some (.slice e)) (hu : P.underlying t' = some d) (hd : ∀ k, d ≠ .int k) (hi : P.info? e = some i) (hz : i.zero = some z)
    (b : Option Addr) (sLen sCap : Nat) (olds : List Value) (ho : ∀ w2 : World, w2.heap = w.heap → (Builtin.firstCells i.size sLen (.slice b sLen sCap)).run P w2 = .ok olds.toArray w2)
    (X : Value) (m : Nat) (news : List Value) (hX : ∀ w2, (Builtin.lenOf X).run P w2 = .ok m w2) (hf : ∀ w2 : World, w2.heap = w.heap → (Builtin.firstCells i.size m X).run P w2 = .ok news.toArray w2)
    (hg : sCap < sLen + m) (h63 : sLen + m ≤ maxLen) (hfit : (sLen + m) * i.bytes ≤ 140737488355328) :
    (Builtin.append_ #[t, t'] ty #[.slice b sLen sCap, X]).run P w =
      .ok (.slice (some ⟨w.heap.size, 0, none⟩) (sLen + m) (grownCap w (sLen + m) sCap e))
        (w.drew.alloc (.cells (olds.toArray ++ news.toArray ++ Builtin.zeroCells z.cells (grownCap w (sLen + m) sCap e - (sLen + m))) e)) := by
  have hn : ¬ (sLen + m ≤ sCap) := by omega
  have h63' : ¬ (9223372036854775807 < ((sLen : Int) + (m : Int))) := by simp only [maxLen] at h63; omega
  have hgf := growslice_fits (bytes := i.bytes) hg hfit
  have h48' : ¬ (281474976710656 < Builtin.nextslicecap (sLen + m) sCap * i.bytes) := by omega
  simp [Builtin.append_, run_underlying ht, run_underlying hu, notInt hd, Go.sizeOf, typeInfo, zeroValue, hi, hz, hX, hn, h63', h48', Question.forced, hf w.drew rfl, ho w.drew rfl, Go.newRow, grownCap]
  congr 2
  apply Array.ext'
  simp [List.append_assoc]

end

section
variable {C : Cfg} {S : Nat → Prop} {K : Kf} {η : List Hist} {σ : Mem} {w w' : World} {fr : Fr} {xs : List Value} {a : Act} {o : Oper} {E : Env}

/-- What is appended, as it lies in the world. -/
structure Src (C : Cfg) (K : Kf) (η : List Hist) (w : World) (k : Nat) (ys : List V) (low : Bool) (Y : Value) (news : List Value) : Prop where
  rel : RelL C K η (flatV ys) news
  rel0 : low = true → RelL C K [] (flatV ys) news
  each : ∀ y ∈ ys, y.cells.length = k
  one : oneL (flatV ys) = true
  len : ∀ w2, (Builtin.lenOf Y).run C.P w2 = .ok ys.length w2
  first : ∀ w2 : World, w2.heap = w.heap → (Builtin.firstCells k ys.length Y).run C.P w2 = .ok news.toArray w2

theorem headK_each {k k' : Nat} {ys : List V} (h : headK k ys = true) (h1 : ∀ y ∈ ys, y.cells.length = k') : ∀ y ∈ ys, y.cells.length = k := by
  cases ys with
  | nil => simp
  | cons y r =>
    simp only [headK, beq_iff_eq] at h
    have := h1 y (by simp)
    intro z hz
    rw [h1 z hz, ← this, h]

theorem cell?_heap {w2 : World} (h : w2.heap = w.heap) (a : Addr) : w2.cell? a = w.cell? a := by simp [World.cell?, h]

theorem src_row (hi : Inv C K S η σ w) {k : Nat} {ys : List V} {Y : Value} (hr : Rel C K η (.row ys) Y) (hk : headK k ys = true) : ∃ news, Src C K η w k ys true Y news := by
  cases hr with
  | row _ b o cap k' cvs g0 g1 g2 g3 g4 =>
    have he := headK_each hk g1
    have hl : cvs.length = ys.length * k := by rw [← g4.length, length_flatV he]
    exact ⟨cvs, g4.mono (Kf.le_refl _) (Hle.nil _), fun _ => g4, he, g2, fun w2 => rfl, fun w2 hw => run_firstCells_some w2 k ys.length ⟨b, o, none⟩ _ _ cvs hl fun j v hj => by
      rw [cell?_heap hw, Addr.add_lit]
      exact hi.kf _ _ (g3 j v hj)⟩
  | rowNil p cap =>
    refine ⟨[], .nil, fun _ => .nil, by simp, rfl, fun w2 => rfl, fun w2 hw => ?_⟩
    cases p with
    | none => rfl
    | some p => simp [Builtin.firstCells, loadCells, loadCellsFrom]

theorem byteV_flat : ∀ s : List UInt8, flatV (s.map byteV) = s.map byteV
  | [] => rfl
  | b :: r => by simp [flatV, byteV, V.cells, byteV_flat r]
theorem byteV_one : ∀ s : List UInt8, oneL (s.map byteV) = true
  | [] => rfl
  | b :: r => by simp [oneL, byteV, V.one, byteV_one r]
theorem byteV_rel : ∀ s : List UInt8, RelL C K η (s.map byteV) (s.map fun b => .int .u8 b.toNat)
  | [] => .nil
  | b :: r => .cons _ _ _ _ (.int _ _) (byteV_rel r)

theorem srcV_run (hi : Inv C K S η σ w) {e : TypeId} {k : Nat} (hke : C.siz e = some k) {y : V} {Y : Value} {ys : List V} {low : Bool} (h : srcV C e σ y = some (ys, low)) (hy : Rel C K η y Y) (hk : headK k ys = true) : ∃ news, Src C K η w k ys low Y news := by
  unfold srcV at h
  split at h
  · cases h; exact src_row hi hy hk
  · cases h; exact src_row hi (rel_own hy) hk
  · cases h
    rw [rel_nils hy]
    exact ⟨[], .nil, fun _ => .nil, by simp, rfl, fun w2 => rfl, fun w2 hw => rfl⟩
  · rename_i s
    cases h
    obtain ⟨s', rfl, rfl⟩ := rel_str hy
    refine ⟨s'.data.toList.map fun b => .int .u8 b.toNat, by rw [byteV_flat]; exact byteV_rel _, fun _ => by rw [byteV_flat]; exact byteV_rel _, headK_each hk (k' := 1) (by simp [byteV, V.cells]), by rw [byteV_flat]; exact byteV_one _, fun w2 => by rw [List.length_map]; rfl, fun w2 hw => ?_⟩
    have hx : s'.extract 0 s'.size = s' := by simp
    have hlen : (List.map byteV s'.data.toList).length = s'.size := by rw [List.length_map]; rfl
    simp only [Builtin.firstCells, hlen, hx, Sem.run_pure]
    congr 1
    apply Array.ext'
    simp
  · rename_i l g off len e'
    split at h
    · rename_i he
      subst he
      split at h
      · rename_i zs hz
        · cases h
          obtain ⟨b, agg, k', h1, h2, h3, h4, h5, h6, rfl⟩ := readMsl_some hz
          rw [hke] at h3; cases h3
          obtain ⟨q1, q2, q3⟩ := getBlk_some h1
          obtain ⟨_, _, _, _, _, hok⟩ := hi.blk l b q1
          have hdl : len * k ≤ (b.cells.drop (off * k)).length := by rw [Nat.add_mul] at h4; simp; omega
          obtain ⟨f1, f2, f3⟩ := elems_flat agg k h5 h6 len (b.cells.drop (off * k)) hdl (oneL_drop hok.one _)
          cases hy with
          | msl _ _ _ _ _ n room k' cap hh he hg g3 g4 g5 =>
            rw [hke] at g3; cases g3
            obtain ⟨vs, hvr, hvc, _⟩ := hi.cells h1 he hg
            have hrel : RelL C K η (flatV (elems agg k len (b.cells.drop (off * k)))) ((vs.drop (off * k)).take (len * k)) := by
              rw [f1]; exact (hvr.drop _).take _
            have hrel0 : lowL 0 (elems agg k len (b.cells.drop (off * k))) = true → RelL C K [] (flatV (elems agg k len (b.cells.drop (off * k)))) ((vs.drop (off * k)).take (len * k)) := fun hlow => by
              have := hrel.low 0 (by rw [lowL_flat]; exact hlow)
              rwa [List.take_zero] at this
            have hone : oneL (flatV (elems agg k len (b.cells.drop (off * k)))) = true := by rw [f1]; exact oneL_take (oneL_drop hok.one _) _
            refine ⟨_, hrel, hrel0, f2, hone, fun w2 => by rw [f3]; rfl, fun w2 hw => ?_⟩
            rw [f3]
            refine run_firstCells_some w2 k len ⟨n, off * k, none⟩ _ _ _ ?_ fun j v hj => ?_
            · rw [← hrel.length, length_flatV f2, f3]
            · rw [cell?_heap hw, Addr.add_lit]
              rw [List.getElem?_take] at hj
              split at hj
              · rw [List.getElem?_drop] at hj
                exact hvc _ _ hj
              · cases hj
          | mslNil _ _ _ _ n room hh he hg hne p cap =>
            refine ⟨[], by simpa [elems, flatV] using RelL.nil, fun _ => by simpa [elems, flatV] using RelL.nil, by simp [elems], rfl, fun w2 => rfl, fun w2 hw => ?_⟩
            cases p with
            | none => rfl
            | some p => simp [Builtin.firstCells, loadCells, loadCellsFrom, elems]
      · cases h
    · cases h
  · cases h

end
end MI

namespace MI
open Go

theorem chg_setRow (w : World) (g : Nat) (cs : Array Value) : Chg (fun n => n = g) w (w.setRow g cs) := ⟨rfl, rfl, rfl, by simp, fun k _ hk => setRow_other w g k cs hk⟩

theorem spot_none {w : World} {a : Addr} {v : Value} (h : w.cell? a = some v) : a.spot = none := by
  unfold World.cell? at h
  split at h
  · split at h
    · cases h
    · rename_i hs; simpa using hs
  · cases h

section
variable {C : Cfg} {S : Nat → Prop} {K : Kf} {η : List Hist} {σ : Mem} {w w' : World} {fr : Fr} {xs : List Value} {a : Act} {o : Oper} {E : Env}

/-- A row of one's own grows where it lies. -/
theorem To.ownInPlace (hi : Inv C K S η σ w) {e : TypeId} {ys0 ys : List V} {X : Value} (hf : FrOK C K S η w (.own e ys0 :: fr) (X :: xs)) {g cap k : Nat} {cells news : List Value} {cur' : Array Value} (hX : X = .slice (some ⟨g, 0, none⟩) ys0.length cap) (ho : OwnAt C K S η w e ys0 X k cells)
    (hc : Chg (fun n => n = g) w w') (hh : w'.heap[g]? = some (.cells cur' e (0, 0))) (ht : cur'.toList.take ((ys0.length + ys.length) * k) = cells ++ news) (hs : cur'.size = cap * k) (hn : ys0.length + ys.length ≤ cap) (hm : cap ≤ maxLen)
    (hr : RelL C K [] (flatV ys) news) (he : ∀ y ∈ ys, y.cells.length = k) (h1 : oneL (flatV ys) = true) :
    To C S K η w (addK K g (cells ++ news)) η σ w' (.own e (ys0 ++ ys) :: fr) (.slice (some ⟨g, 0, none⟩) (ys0.length + ys.length) cap :: xs) := by
  have hog : X.ownBlock = some g := by rw [hX]; rfl
  obtain ⟨hSg, hKg, hTg⟩ := ho.blk g hog
  have hcl : cells.length = ys0.length * k := ho.row.1
  have hnl : news.length = ys.length * k := by rw [← hr.length, length_flatV he]
  have hglt : g < w.heap.size := (hf.ownBlk (i := 0) (e := e) (ys := ys0) (x := X) rfl rfl hog).1
  have hcell := ho.row.cells hog
  have hle : K.le (addK K g (cells ++ news)) := addK_le fun ad v hk hb _ => by
    have hlt := hKg ad v hk hb
    have hcv := hi.kf ad v hk
    rw [← hcl] at hlt
    rw [List.getElem?_append_left hlt]
    have h2 := hcell ad.off _ (List.getElem?_eq_getElem hlt)
    rw [Addr.add_lit, Nat.zero_add] at h2
    have : (⟨g, ad.off, none⟩ : Addr) = ad := by
      have := spot_none hcv
      cases ad; simp_all
    rw [this, hcv] at h2
    rw [List.getElem?_eq_getElem hlt, h2]
  have hold : ∀ n, n < w.heap.size → n ≠ g → w'.heap[n]? = w.heap[n]? := fun n hn hne => hc.block n hn hne
  have hthis : ∀ j c, (cells ++ news)[j]? = some c → w'.cell? ⟨g, j, none⟩ = some c := fun j c hj => by
    rw [← ht, List.getElem?_take] at hj
    split at hj
    · simp [World.cell?, hh]; simpa using hj
    · cases hj
  have hnK : ∀ ad v, addK K g (cells ++ news) ad = some v → ad.block ≠ g → K ad = some v := fun ad v e1 e2 => addK_old e1 e2
  have hrow : Rel C (addK K g (cells ++ news)) [] (.row (ys0 ++ ys)) (.slice (some ⟨g, 0, none⟩) (ys0.length + ys.length) cap) := by
    have := Rel.row (C := C) (K := addK K g (cells ++ news)) (η := []) (ys0 ++ ys) g 0 cap k (cells ++ news) (by simpa using hn) (fun y hy => (List.mem_append.1 hy).elim (ho.each y) (he y))
      (by rw [flatV_append, oneL_append, ho.one, h1]; rfl) (addK_holds _ _ _) (by rw [flatV_append]; exact (ho.rel.append hr).mono hle (Hle.refl _))
    rwa [List.length_append] at this
  refine ⟨hle, addK_in hSg, Hle.refl _, hc.mono fun n e => e ▸ hSg, ⟨fun ad v hk => ?_, hi.len, fun l b hb => ?_, hi.inj, fun n hn => ?_, hi.top⟩, FrOK.consOwn (k := k) (cells := cells ++ news) ?_ hrow ?_ ?_⟩
  · by_cases hb : ad.block = g
    · by_cases hsp : ad.spot = none
      · have h2 : (cells ++ news)[ad.off]? = some v := by simpa [addK, hb, hsp] using hk
        have := hthis _ _ h2
        obtain ⟨ab, ao, asp⟩ := ad
        simp at hb hsp
        subst hb; subst hsp
        exact this
      · have h2 : K ad = some v := by simpa [addK, hsp] using hk
        exact absurd (spot_none (hi.kf ad v h2)) hsp
    · have hk' := hnK ad v hk hb
      rw [World.cell?_of_block (w := w) (hold _ (hi.kblock hk') hb)]
      exact hi.kf ad v hk'
  · obtain ⟨h, n, room, he', hg', hok⟩ := hi.blk l b hb
    have hT : Touch η n := ⟨l, h, b.gen, room, he', hg'⟩
    have hng : n ≠ g := fun e => hTg (e ▸ hT)
    refine ⟨h, n, room, he', hg', hok.step hle (Hle.refl _) (hold n (hi.tlt n hT).1 hng) fun hfz ad v hk hb' => ?_⟩
    exact hok.free hfz ad v (hnK ad v hk (by rw [hb']; exact hng)) hb'
  · have := hi.tlt n hn
    exact ⟨Nat.lt_of_lt_of_le this.1 hc.size, this.2⟩
  · refine hf.tail.step hle (Hle.refl _) fun i e' ys' x g' hi' hx' hg' => ?_
    have hap : g' ≠ g := fun e1 => by
      subst e1
      exact hf.apart 0 (i + 1) e ys0 X e' ys' x g' (by omega) (by simp) (by simp) (by simpa using hi') (by simpa using hx') hog hg'
    have hb := hf.tail.ownBlk hi' hx' hg'
    exact ⟨hold g' hb.1 hap, fun ad c e1 e2 => hnK ad c e1 (by rw [e2]; exact hap), hb.2.2⟩
  · refine ⟨ho.siz, ho.pos, ⟨by rw [List.length_append, hcl, hnl, List.length_append, Nat.add_mul], .inr ⟨g, cap, cur', by rw [List.length_append], Nat.zero_le _, hh, by rw [List.length_append]; exact hn, hm, hs, by rw [List.length_append]; exact ht⟩⟩,
      by rw [flatV_append]; exact (ho.rel.append hr).mono hle (Hle.refl _), fun y hy => (List.mem_append.1 hy).elim (ho.each y) (he y), by rw [flatV_append, oneL_append, ho.one, h1]; rfl, fun g' hg' => ?_⟩
    simp only [Value.ownBlock, Option.some.injEq] at hg'
    subst hg'
    refine ⟨hSg, fun ad c hk hb => ?_, hTg⟩
    unfold addK at hk
    split at hk
    · have := (List.getElem?_eq_some_iff.1 hk).1
      rw [List.length_append, hcl, hnl, ← Nat.add_mul] at this
      rwa [List.length_append]
    · have := hKg ad c hk hb
      rw [List.length_append, Nat.add_mul]
      omega
  · intro i e' ys' x' g' hi' hx' hg' hg''
    simp only [Value.ownBlock, Option.some.injEq] at hg'
    subst hg'
    exact hf.apart 0 (i + 1) e ys0 X e' ys' x' g (by omega) (by simp) (by simp) (by simpa using hi') (by simpa using hx') hog hg''

theorem fit_bytes {n b : Nat} (h : n ≤ mostRow) (hb : b ≤ 32768) : n * b ≤ 140737488355328 := by
  have : n * b ≤ mostRow * 32768 := Nat.mul_le_mul h hb
  simp only [mostRow] at this
  omega

theorem appendOwn_to (hS : Good C) (hi : Inv C K S η σ w) {e : TypeId} {ys0 ys : List V} {X : Value} (hf : FrOK C K S η w (.own e ys0 :: fr) (X :: xs)) (hF : Fresh S w) {t t' ty : TypeId} {d : TypeDesc} (ht : C.und t = some (.slice e)) (hu : C.und t' = some d) (hd : ∀ k, d ≠ .int k)
    {k : Nat} (hk : C.siz e = some k) (h0 : 0 < k) {z : V} (hz : C.zero e = some z) (hzk : z.cells.length = k) {Y : Value} {news : List Value} (hsrc : Src C K η w k ys true Y news) (hmost : ys0.length + ys.length ≤ mostRow) :
    ∃ K' w' x, (Builtin.append_ #[t, t'] ty #[X, Y]).run C.P w = .ok x w' ∧ To C S K η w K' η σ w' (.own e (ys0 ++ ys) :: fr) (x :: xs) := by
  obtain ⟨k', cells, ho⟩ := hf.own 0 e ys0 X (by simp) (by simp)
  have hkk := ho.siz
  rw [hk] at hkk; cases hkk
  obtain ⟨i, zr, h1, h2, hzr, h4, h5, h6⟩ := zero_cells (K := K) (η := η) hS hz
  obtain ⟨i', h1', hsz', hby⟩ := hS.siz _ _ hk
  rw [h1] at h1'; cases h1'
  subst hsz'
  have hbytes := fit_bytes (b := i.bytes) hmost hby
  have hmax : ys0.length + ys.length ≤ maxLen := by simp only [mostRow] at hmost; simp only [maxLen]; omega
  have hnl : news.length = ys.length * i.size := by rw [← hsrc.rel.length, length_flatV hsrc.each]
  have hund := hS.und t _ ht
  have hund' := hS.und t' _ hu
  have hcl : cells.length = ys0.length * i.size := ho.row.1
  -- a row anew
  have grow : ∀ (b : Option Addr) (cap : Nat), X = .slice b ys0.length cap → cap < ys0.length + ys.length → (∀ w2 : World, w2.heap = w.heap → (Builtin.firstCells i.size ys0.length (.slice b ys0.length cap)).run C.P w2 = .ok cells.toArray w2) →
      ∃ K' w' x, (Builtin.append_ #[t, t'] ty #[X, Y]).run C.P w = .ok x w' ∧ To C S K η w K' η σ w' (.own e (ys0 ++ ys) :: fr) (x :: xs) := fun b cap hX hc hfc => by
    have hrun := run_app_grow (P := C.P) w t t' ty e i zr d hund hund' hd h1 h2 b ys0.length cap cells hfc Y ys.length news hsrc.len hsrc.first hc hmax hbytes
    rw [hX]
    have hge := grownCap_ge w (ys0.length + ys.length) cap e
    have hcm := grownCap_le_maxLen w (ys0.length + ys.length) cap e hmax
    have htk : (cells.toArray ++ news.toArray ++ Builtin.zeroCells zr.cells (grownCap w (ys0.length + ys.length) cap e - (ys0.length + ys.length))).toList.take ((ys0 ++ ys).length * i.size) = cells ++ news := by
      have hl : (cells ++ news).length = (ys0 ++ ys).length * i.size := by rw [List.length_append, hcl, hnl, List.length_append, Nat.add_mul]
      simp only [Array.toList_append, List.append_assoc]
      rw [← List.append_assoc, ← hl]
      exact List.take_left
    have hto := To.ownNew (w' := w.drew.alloc (.cells (cells.toArray ++ news.toArray ++ Builtin.zeroCells zr.cells (grownCap w (ys0.length + ys.length) cap e - (ys0.length + ys.length))) e)) (e := e) (k := i.size) (cap := grownCap w (ys0.length + ys.length) cap e) (ys := ys0 ++ ys)
      hi hf.tail hF rfl rfl rfl rfl hk h0 (by
        simp only [Array.size_append, List.size_toArray, size_zeroCells, h6, hcl, hnl, ← Nat.add_mul]
        congr 1
        omega) (by rw [List.length_append]; exact hge) hcm (by rw [htk, flatV_append]; exact ho.rel.append (hsrc.rel0 rfl)) (fun y hy => (List.mem_append.1 hy).elim (ho.each y) (hsrc.each y)) (by rw [flatV_append, oneL_append, ho.one, hsrc.one]; rfl)
    rw [List.length_append] at hto
    exact ⟨_, _, _, hrun, hto⟩
  rcases ho.row.2 with ⟨hX, hn⟩ | ⟨g, cap, cur, hX, hbg, hg, hnc, hcm, hcs, htake⟩
  · have hys : ys0 = [] := List.eq_nil_of_length_eq_zero hn
    have hcn : cells = [] := List.eq_nil_of_length_eq_zero (by rw [hcl, hn]; simp)
    by_cases hm : ys.length = 0
    · have hy : ys = [] := List.eq_nil_of_length_eq_zero hm
      have hnn : news = [] := List.eq_nil_of_length_eq_zero (by rw [hnl, hm]; simp)
      refine ⟨K, w, X, ?_, ?_⟩
      · rw [hX]
        refine run_app_none (P := C.P) w t t' ty e i d hund hund' hd h1 Y ?_ ?_
        · have := hsrc.len; rwa [hm] at this
        · have := hsrc.first; rwa [hm, hnn] at this
      · rw [hy, List.append_nil]
        exact .refl hi hf
    · refine grow none 0 (by rw [hX, hn]) (by omega) fun w2 hw => ?_
      rw [hcn]
      rfl
  · by_cases hroom : ys0.length + ys.length ≤ cap
    · have hfit : ys0.length * i.size + news.length ≤ cur.size := by rw [hnl, hcs, ← Nat.add_mul]; exact Nat.mul_le_mul_right _ hroom
      have hrun := run_app_room (P := C.P) w t t' ty e i d hund hund' hd h1 g ys0.length cap cur hg Y ys.length news hsrc.len hsrc.first hnl (hsrc.rel.ones hsrc.one) hroom hfit
      have hsetg := setRow_heap w g cur (cur.toList.take (ys0.length * i.size) ++ news ++ cur.toList.drop (ys0.length * i.size + news.length)).toArray e (0, 0) hg
      refine ⟨_, _, _, by rw [hX]; exact hrun, To.ownInPlace (ys := ys) hi hf hX ho (chg_setRow w g _) hsetg ?_ ?_ hroom hcm (hsrc.rel0 rfl) hsrc.each hsrc.one⟩
      · rw [htake]
        have hl : (cells ++ news).length = (ys0.length + ys.length) * i.size := by rw [List.length_append, hcl, hnl, Nat.add_mul]
        rw [← hl]
        exact List.take_left
      · simp only [List.size_toArray, List.length_append, List.length_take, List.length_drop, Array.length_toList]
        omega
    · refine grow (some ⟨g, 0, none⟩) cap hX (by omega) fun w2 hw => ?_
      refine run_firstCells_some w2 i.size ys0.length _ _ _ cells hcl fun j v hj => ?_
      rw [cell?_heap hw]
      exact ho.row.cells (g := g) (by rw [hX]; rfl) j v hj

end
end MI

namespace MI
open Go

section
variable {C : Cfg} {S : Nat → Prop} {K : Kf} {η : List Hist} {σ : Mem} {w w' : World} {fr : Fr} {xs : List Value} {a : Act} {o : Oper} {E : Env}

theorem appendNils_to (hS : Good C) (hi : Inv C K S η σ w) {e : TypeId} {ys : List V} (hf : FrOK C K S η w fr xs) (hF : Fresh S w) {t t' ty : TypeId} {d : TypeDesc} (ht : C.und t = some (.slice e)) (hu : C.und t' = some d) (hd : ∀ k, d ≠ .int k)
    {k : Nat} (hk : C.siz e = some k) (h0 : 0 < k) {z : V} (hz : C.zero e = some z) (hzk : z.cells.length = k) {Y : Value} {news : List Value} {low : Bool} (hsrc : Src C K η w k ys low Y news) (hmost : ys.length ≤ mostRow) :
    (ys = [] → (Builtin.append_ #[t, t'] ty #[.slice none 0 0, Y]).run C.P w = .ok (.slice none 0 0) w) ∧
    (ys ≠ [] → ∃ η' w' x, (Builtin.append_ #[t, t'] ty #[.slice none 0 0, Y]).run C.P w = .ok x w' ∧ To C S K η w K η' (newRow σ e (flatV ys) ys.length true).2 w' ((newRow σ e (flatV ys) ys.length true).1 :: fr) (x :: xs)) := by
  obtain ⟨i, zr, h1, h2, hzr, h4, h5, h6⟩ := zero_cells (K := K) (η := η) hS hz
  obtain ⟨i', h1', hsz', hby⟩ := hS.siz _ _ hk
  rw [h1] at h1'; cases h1'
  subst hsz'
  have hund := hS.und t _ ht
  have hund' := hS.und t' _ hu
  have hnl : news.length = ys.length * i.size := by rw [← hsrc.rel.length, length_flatV hsrc.each]
  constructor
  · intro hy
    subst hy
    have hnn : news = [] := List.eq_nil_of_length_eq_zero (by rw [hnl]; simp)
    subst hnn
    exact run_app_none (P := C.P) w t t' ty e i d hund hund' hd h1 Y hsrc.len hsrc.first
  · intro hy
    have hpos : 0 < ys.length := List.length_pos_iff.2 hy
    have hmax : ys.length ≤ maxLen := by simp only [mostRow] at hmost; simp only [maxLen]; omega
    have hrun := run_app_grow (P := C.P) w t t' ty e i zr d hund hund' hd h1 h2 none 0 0 [] (fun w2 hw => rfl) Y ys.length news hsrc.len hsrc.first (by omega) (by omega) (by rw [Nat.zero_add]; exact fit_bytes hmost hby)
    rw [Nat.zero_add] at hrun
    have hge := grownCap_ge w ys.length 0 e
    have hcm := grownCap_le_maxLen w ys.length 0 e hmax
    have hto := To.mslNew (w' := w.drew.alloc (.cells (([] : List Value).toArray ++ news.toArray ++ Builtin.zeroCells zr.cells (grownCap w ys.length 0 e - ys.length)) e)) (e := e) (k := i.size) (cap := grownCap w ys.length 0 e) (len := ys.length) (cs := flatV ys)
      hi hf hF rfl rfl rfl rfl hk h0 (by
        simp only [Array.size_append, List.size_toArray, List.length_nil, size_zeroCells, h6, hnl, ← Nat.add_mul, Nat.zero_add]
        congr 1
        omega) hge hcm (by omega) (by
        rw [length_flatV hsrc.each, ← hnl]
        simp only [Array.toList_append, List.append_assoc, List.nil_append]
        rw [List.take_left]
        exact hsrc.rel) (by
        rw [length_flatV hsrc.each, ← hnl]
        simp only [Array.size_append, List.size_toArray, List.length_nil]
        omega) hsrc.one
    exact ⟨_, _, _, hrun, hto⟩

theorem appendMsl_to (hS : Good C) (hi : Inv C K S η σ w) {e : TypeId} {ys : List V} (hf : FrOK C K S η w fr xs) (hF : Fresh S w) {t t' ty : TypeId} {d : TypeDesc} (ht : C.und t = some (.slice e)) (hu : C.und t' = some d) (hd : ∀ k, d ≠ .int k)
    {k : Nat} (hk : C.siz e = some k) (h0 : 0 < k) {z : V} (hz : C.zero e = some z) (hzk : z.cells.length = k) {Y : Value} {news : List Value} {low : Bool} (hsrc : Src C K η w k ys low Y news) {l g len : Nat} (hmost : len + ys.length ≤ mostRow) {X : Value} (hX : Rel C K η (.msl l g 0 len e) X)
    {b : Blk} (hb : getBlk σ l g = some b) (hfz : b.frozen = false) (hgr : b.grow = true) (hbe : b.ty = e) (hlen : len * k ≤ b.cells.length) :
    ∃ η' w' x, (Builtin.append_ #[t, t'] ty #[X, Y]).run C.P w = .ok x w' ∧ To C S K η w K η' (σ.set l { b with cells := b.cells.take (len * k) ++ flatV ys, gen := g + 1 }) w' (.msl l (g + 1) 0 (len + ys.length) e :: fr) (x :: xs) := by
  obtain ⟨i, zr, h1, h2, hzr, h4, h5, h6⟩ := zero_cells (K := K) (η := η) hS hz
  obtain ⟨i', h1', hsz', hby⟩ := hS.siz _ _ hk
  rw [h1] at h1'; cases h1'
  subst hsz'
  have hund := hS.und t _ ht
  have hund' := hS.und t' _ hu
  have hnl : news.length = ys.length * i.size := by rw [← hsrc.rel.length, length_flatV hsrc.each]
  obtain ⟨q1, q2, q3⟩ := getBlk_some hb
  obtain ⟨h', n', room', he', hg', hok⟩ := hi.blk l b q1
  obtain ⟨cur, fz, hh, hcl, hcr, hcz, hcg⟩ := hok.heap
  obtain ⟨hfz0, k', hk', hk0, hcs, hrm, hr0⟩ := hcg hgr hfz
  subst hfz0
  rw [hbe] at hk' hh
  rw [hk] at hk'; cases hk'
  have hmax : len + ys.length ≤ maxLen := by simp only [mostRow] at hmost; simp only [maxLen]; omega
  cases hX with
  | mslNil _ _ _ _ nb room hist g1 g2 g3 ad cap => exact absurd rfl g3
  | msl _ _ _ _ _ nb room kk cap hist g1 g2 g3 g4 g5 =>
    rw [g1] at he'
    obtain rfl : hist = h' := Option.some.inj he'
    rw [q2, g2] at hg'
    obtain ⟨rfl, rfl⟩ : nb = n' ∧ room = room' := by simpa using hg'
    rw [hk] at g3; cases g3
    obtain ⟨hcap, hlr⟩ := g5 hr0
    obtain rfl : cap = room := by omega
    have hltl : l < η.length := (List.getElem?_eq_some_iff.1 g1).1
    have htop := hi.top l b hist q1 g1
    rw [q2] at htop
    have hnone : ∀ x, hist (g + 1) ≠ some x := fun x hx => by have := htop _ _ hx; omega
    have holds : RelL C K η (b.cells.take (len * i.size)) (cur.toList.take (len * i.size)) := by
      have := hcr.take (len * i.size)
      rwa [List.take_take, Nat.min_eq_left hlen] at this
    have hol : (cur.toList.take (len * i.size)).length = len * i.size := by simp; omega
    have htl : (b.cells.take (len * i.size)).length = len * i.size := by simp; omega
    have hcell : ∀ j v, (cur.toList.take (len * i.size))[j]? = some v → w.cell? ⟨nb, j, none⟩ = some v := fun j v hj => by
      rw [List.getElem?_take] at hj
      split at hj
      · simp [World.cell?, hh]; simpa using hj
      · cases hj
    have hlen2 : (b.cells.take (len * i.size) ++ flatV ys).length = (len + ys.length) * i.size := by rw [List.length_append, htl, length_flatV hsrc.each, Nat.add_mul]
    have hone2 : oneL (b.cells.take (len * i.size) ++ flatV ys) = true := by rw [oneL_append, oneL_take hok.one, hsrc.one]; rfl
    have hz0 : 0 * i.size = 0 := Nat.zero_mul _
    have hext : ∀ (nb2 room2 : Nat) (q : Nat) (x : Nat × Nat), hist q = some x → (fun q => if q = g + 1 then some (nb2, room2) else hist q) q = some x := fun nb2 room2 q x hq => by
      have hne : q ≠ g + 1 := fun e1 => hnone x (e1 ▸ hq)
      simpa [hne] using hq
    have hback : ∀ (nb2 room2 : Nat) (q m r : Nat), (fun q => if q = g + 1 then some (nb2, room2) else hist q) q = some (m, r) → hist q = some (m, r) ∨ m = nb2 := fun nb2 room2 q m r hq => by
      by_cases hne : q = g + 1
      · simp [hne] at hq; exact .inr hq.1.symm
      · simp [hne] at hq; exact .inl hq
    have htop2 : ∀ (nb2 room2 : Nat) (q : Nat) (x : Nat × Nat), (fun q => if q = g + 1 then some (nb2, room2) else hist q) q = some x → q ≤ g + 1 := fun nb2 room2 q x hq => by
      by_cases hne : q = g + 1
      · omega
      · simp [hne] at hq; have := htop q x hq; omega
    have hcons : ∀ (nb2 room2 : Nat) (w2 : World), len + ys.length ≤ room2 →
        To C S K η w K (η.set l fun q => if q = g + 1 then some (nb2, room2) else hist q) (σ.set l { b with cells := b.cells.take (len * i.size) ++ flatV ys, gen := g + 1 }) w2 fr xs →
        To C S K η w K (η.set l fun q => if q = g + 1 then some (nb2, room2) else hist q) (σ.set l { b with cells := b.cells.take (len * i.size) ++ flatV ys, gen := g + 1 }) w2 (.msl l (g + 1) 0 (len + ys.length) e :: fr) (.slice (some ⟨nb2, 0, none⟩) (len + ys.length) room2 :: xs) := fun nb2 room2 w2 hr2 hto => by
      refine ⟨hto.kle, hto.kin, hto.hle, hto.chg, hto.inv, hto.fr.cons ?_ (by simp)⟩
      have := Rel.msl (C := C) (K := K) (η := η.set l fun q => if q = g + 1 then some (nb2, room2) else hist q) l (g + 1) 0 (len + ys.length) e nb2 room2 i.size room2 (fun q => if q = g + 1 then some (nb2, room2) else hist q)
        (by rw [List.getElem?_set, if_pos rfl, if_pos hltl]) (by simp) hk hr2 (fun _ => ⟨by omega, by omega⟩)
      rwa [hz0] at this
    by_cases hroom : len + ys.length ≤ cap
    · have hfit : len * i.size + news.length ≤ cur.size := by rw [hnl, hcs, ← Nat.add_mul]; exact Nat.mul_le_mul_right _ hroom
      have hrun := run_app_room (P := C.P) w t t' ty e i d hund hund' hd h1 nb len cap cur hh Y ys.length news hsrc.len hsrc.first hnl (hsrc.rel.ones hsrc.one) hroom hfit
      have hset := setRow_heap w nb cur (cur.toList.take (len * i.size) ++ news ++ cur.toList.drop (len * i.size + news.length)).toArray e (0, 0) hh
      have hsz2 : (cur.toList.take (len * i.size) ++ news ++ cur.toList.drop (len * i.size + news.length)).toArray.size = cap * i.size := by
        simp only [List.size_toArray, List.length_append, List.length_take, List.length_drop, Array.length_toList]
        omega
      refine ⟨_, _, _, by rw [hz0]; exact hrun, hcons nb cap _ hroom ?_⟩
      refine To.upd hi hf q1 g1 (by rw [q2]; exact g2) hfz (n' := nb) (room' := cap) (hext nb cap) (by simp) (.inl rfl) (hi.tlt nb ⟨l, hist, g, cap, g1, g2⟩).2 (hback nb cap) ((chg_setRow w nb _).mono fun k e => .inl e) (by rw [setRow_size]; exact (hi.tlt nb ⟨l, hist, g, cap, g1, g2⟩).1) ?_ (htop2 nb cap)
      · refine ⟨hok.kind, ⟨_, (0, 0), by rw [hset, hbe], by rw [hlen2, hsz2]; exact Nat.mul_le_mul_right _ hroom, ?_, fun _ => .inl rfl, fun _ _ => ⟨rfl, i.size, by rw [hbe]; exact hk, hk0, hsz2, hrm, hr0⟩⟩, hone2, (fun h => by simp [hgr] at h), hok.free, (fun h => by simp [hfz] at h), fun h => by simp [hgr] at h⟩
        have hl3 : (cur.toList.take (len * i.size) ++ news).length = (len + ys.length) * i.size := by rw [List.length_append, hol, hnl, Nat.add_mul]
        rw [hlen2]
        have : ((cur.toList.take (len * i.size) ++ news ++ cur.toList.drop (len * i.size + news.length)).toArray).toList.take ((len + ys.length) * i.size) = cur.toList.take (len * i.size) ++ news := by
          rw [← hl3]
          exact List.take_left
        rw [this]
        exact (holds.append hsrc.rel).mono (Kf.le_refl _) (Hle.set g1 (hext _ _))
    · have hrun := run_app_grow (P := C.P) w t t' ty e i zr d hund hund' hd h1 h2 (some ⟨nb, 0, none⟩) len cap (cur.toList.take (len * i.size)) (fun w2 hw => by
        refine run_firstCells_some w2 i.size len _ _ _ _ hol fun j v hj => ?_
        rw [cell?_heap hw, Addr.add_lit, Nat.zero_add]
        exact hcell j v hj) Y ys.length news hsrc.len hsrc.first (by omega) hmax (fit_bytes hmost hby)
      have hge := grownCap_ge w (len + ys.length) cap e
      have hcm := grownCap_le_maxLen w (len + ys.length) cap e hmax
      refine ⟨_, _, _, by rw [hz0]; exact hrun, hcons w.heap.size (grownCap w (len + ys.length) cap e) _ hge ?_⟩
      have hSn : S w.heap.size := hF _ (Nat.le_refl _)
      refine To.upd hi hf q1 g1 (by rw [q2]; exact g2) hfz (n' := w.heap.size) (room' := grownCap w (len + ys.length) cap e) (hext w.heap.size _) (by simp) (.inr (Nat.le_refl _)) hSn (hback w.heap.size _) (chg_push (o := .cells _ e (0, 0)) rfl rfl rfl rfl) (by simp) ?_ (htop2 w.heap.size _)
      · have hasz : ((cur.toList.take (len * i.size)).toArray ++ news.toArray ++ Builtin.zeroCells zr.cells (grownCap w (len + ys.length) cap e - (len + ys.length))).size = grownCap w (len + ys.length) cap e * i.size := by
          simp only [Array.size_append, List.size_toArray, size_zeroCells, h6, hol, hnl, ← Nat.add_mul]
          congr 1
          omega
        have hnew : (w.drew.alloc (.cells ((cur.toList.take (len * i.size)).toArray ++ news.toArray ++ Builtin.zeroCells zr.cells (grownCap w (len + ys.length) cap e - (len + ys.length))) e)).heap[w.heap.size]? = some (.cells ((cur.toList.take (len * i.size)).toArray ++ news.toArray ++ Builtin.zeroCells zr.cells (grownCap w (len + ys.length) cap e - (len + ys.length))) e (0, 0)) := heap_alloc_new w.drew _
        refine ⟨hok.kind, ⟨_, (0, 0), by rw [hbe]; exact hnew, by rw [hlen2, hasz]; exact Nat.mul_le_mul_right _ hge, ?_, fun _ => .inl rfl, fun _ _ => ⟨rfl, i.size, by rw [hbe]; exact hk, hk0, hasz, hcm, by omega⟩⟩, hone2, (fun h => by simp [hgr] at h), (fun _ a v hk2 hb2 => absurd (hi.kblock hk2) (by omega)), (fun h => by simp [hfz] at h), fun h => by simp [hgr] at h⟩
        have hl3 : (cur.toList.take (len * i.size) ++ news).length = (len + ys.length) * i.size := by rw [List.length_append, hol, hnl, Nat.add_mul]
        rw [hlen2]
        have : ((cur.toList.take (len * i.size)).toArray ++ news.toArray ++ Builtin.zeroCells zr.cells (grownCap w (len + ys.length) cap e - (len + ys.length))).toList.take ((len + ys.length) * i.size) = cur.toList.take (len * i.size) ++ news := by
          simp only [Array.toList_append, List.append_assoc]
          rw [← List.append_assoc, ← hl3]
          exact List.take_left
        rw [this]
        exact (holds.append hsrc.rel).mono (Kf.le_refl _) (Hle.set g1 (hext _ _))

theorem ok_append (hS : Good C) (hG : GlobOK C K) (hi : Inv C K S η σ w) (hf : FrOK C K S η w fr a.tmps.toList) (hF : Fresh S w) (c : Call) (ho : o.op = .call c) (hc : c.callee = .builtin .append) (x y : Operand) (t t' : TypeId) (ha : c.args.toList = [x, y]) (hta : c.argTypes.toList = [t, t'])
    {d : TypeDesc} (hu : C.und t' = some d) (hd : ∀ k, d ≠ .int k) {v : V} {σ' : Mem} (h : (appendV C t (evalV C fr x) (evalV C fr y) σ).run E = some (v, σ')) : OpOK C S K η w a o v (MI.unTmp fr x) σ' := by
  have hh := hf.hand hG x
  have hy := evalV_rel hG hf.rel y
  have hexec : ∀ r w', (Builtin.append_ #[t, t'] o.type #[a.eval x, a.eval y]).run C.P w = .ok r w' → (execOp a.eval o).run C.P w = .ok (.value r) w' := fun r w' hr => by
    rw [exec_builtin ho hc, toList_two ha, toList_two hta, show #[x, y].map a.eval = #[a.eval x, a.eval y] by simp]
    exact run_v _ _ _ hr
  have hrx : Rel C K η (evalV C fr x) (a.eval x) := evalV_rel hG hf.rel x
  unfold appendV at h
  split at h
  · cases h
  · rename_i e he
    have hue := elemT_und he
    split at h
    · rename_i ys low k z hys hk hz
      split at h
      · cases h
      · rename_i hkz
        have h0 : 0 < k := by omega
        have hzk : z.cells.length = k := by omega
        simp only [Ask.run] at h
        split at h
        · rename_i hhk
          obtain ⟨news, hsrc⟩ := srcV_run hi hk hys hy hhk
          generalize evalV C fr x = xv at h hh hrx
          split at h
          · rename_i e' ys0
            split at h
            · rename_i hee
              obtain ⟨hee, hlow⟩ := hee
              subst hee
              subst hlow
              simp only [Ask.run] at h
              split at h
              · rename_i hm
                cases h
                obtain ⟨K', w', r, hr, hto⟩ := appendOwn_to (ty := o.type) hS hi hh hF hue hu hd hk h0 hz hzk hsrc (by simpa using hm)
                exact .value (hexec _ _ hr) hto
              · cases h
            · cases h
          · simp only [Ask.run] at h
            split at h
            · rename_i hm
              rw [rel_nils hrx] at hexec hh
              obtain ⟨n1, n2⟩ := appendNils_to (ty := o.type) hS hi hh.tail hF hue hu hd hk h0 hz hzk hsrc (by simpa using hm)
              cases ys with
              | nil =>
                simp only [List.isEmpty_nil, Ask.run, Option.some.injEq, Prod.mk.injEq] at h
                obtain ⟨rfl, rfl⟩ := h
                exact .value (hexec _ _ (n1 rfl)) (.refl hi hh)
              | cons y0 r0 =>
                simp only [List.isEmpty_cons, Ask.run, Option.some.injEq, Prod.mk.injEq] at h
                obtain ⟨rfl, rfl⟩ := h
                obtain ⟨η', w', r, hr, hto⟩ := n2 (by simp)
                exact .value (hexec _ _ hr) hto
            · cases h
          · rename_i l g off len e'
            split at h
            · rename_i b hb
              split at h
              · cases h
              · rename_i hcond
                simp only [Bool.or_eq_true, Bool.not_eq_true', bne_iff_ne, ne_eq, decide_eq_true_eq, not_or, Bool.not_eq_true, Bool.not_eq_false, Decidable.not_not, Nat.not_lt, gt_iff_lt] at hcond
                obtain ⟨⟨⟨⟨⟨c1, c2⟩, c3⟩, c4⟩, c5⟩, c6⟩ := hcond
                subst c3; subst c4
                simp only [Ask.run] at h
                split at h
                · rename_i hm
                  cases h
                  obtain ⟨η', w', r, hr, hto⟩ := appendMsl_to (ty := o.type) hS hi hh.tail hF hue hu hd hk h0 hz hzk hsrc (by simpa using hm) hrx hb c1 c2 c5.symm (by omega)
                  exact .value (hexec _ _ hr) hto
                · cases h
            · cases h
          · cases h
        · cases h
    · cases h

end
end MI

namespace MI
open Go

theorem isByte_some {C : Cfg} {e : TypeId} (h : isByteT C e = true) : C.und e = some (.int .u8) ∧ C.siz e = some 1 := by
  unfold isByteT at h
  split at h
  · rename_i h1 h2; exact ⟨h1, h2⟩
  · cases h

theorem bytesOf_cells : ∀ {ys : List V} {s : List UInt8}, bytesOf ys = some s → ∃ ns : List Int, flatV ys = ns.map (V.int .u8) ∧ s = ns.map (fun n => UInt8.ofNat n.toNat) ∧ ns.length = ys.length
  | [], s, h => by simp only [bytesOf, Option.some.injEq] at h; subst h; exact ⟨[], rfl, rfl, rfl⟩
  | v :: r, s, h => by
    cases v with
    | int k n =>
      cases k <;> simp only [bytesOf] at h <;> try (cases h; done)
      split at h
      · rename_i l hl
        cases h
        obtain ⟨ns, h1, h2, h3⟩ := bytesOf_cells hl
        exact ⟨n :: ns, by simp [flatV, V.cells, h1], by simp [h2], by simp [h3]⟩
      · cases h
    | _ => simp [bytesOf] at h

theorem okBytes_ns : ∀ {ns : List Int}, okBytes (ns.map (V.int .u8)) = true → ∀ n ∈ ns, 0 ≤ n ∧ n < 256
  | [], _ => by simp
  | n :: r, h => by
    simp only [List.map_cons, okBytes, Bool.and_eq_true, decide_eq_true_eq] at h
    intro m hm
    rcases List.mem_cons.1 hm with rfl | hm
    · exact h.1
    · exact okBytes_ns h.2 m hm

section
variable {C : Cfg} {S : Nat → Prop} {K : Kf} {η : List Hist} {σ : Mem} {w w' : World} {fr : Fr} {xs : List Value} {a : Act} {o : Oper} {E : Env}

theorem rel_ints : ∀ {ns : List Int} {cvs : List Value}, RelL C K η (ns.map (V.int .u8)) cvs → cvs = ns.map (Value.int .u8)
  | [], _, h => by cases h; rfl
  | n :: r, _, h => by
    cases h with
    | cons _ x _ s h1 h2 => rw [rel_int h1, rel_ints h2]; rfl

theorem run_convert_cells (src e : TypeId) (hs : C.P.underlying src = some (.slice e)) (he : C.P.underlying e = some (.int .u8)) (dst : TypeId) (hd : C.P.underlying dst = some .string) (p : Addr) (len cap : Nat) (ns : List Int) (hl : ns.length = len)
    (hc : ∀ j v, (ns.map (Value.int .u8))[j]? = some v → w.cell? (p.add j) = some v) : (convert src dst (.slice (some p) len cap)).run C.P w = .ok (.string ⟨(ns.map fun n => UInt8.ofNat n.toNat).toArray⟩) w := by
  have h1 := run_loadCells_list (P := C.P) w p (ns.map (Value.int .u8)) hc
  rw [List.length_map, hl] at h1
  rw [run_convert_bytes_string w src dst e _ len cap hs he hd, run_bytesToString w _ len cap ns h1, foldl_push_bytes]
  simp [ByteArray.empty, ByteArray.emptyWithCapacity]
  rfl

theorem strRel (s : List UInt8) : Rel C K η (.str s) (.string ⟨s.toArray⟩) := by
  have := Rel.str (C := C) (K := K) (η := η) ⟨s.toArray⟩
  simpa using this

theorem bytesStr_run (hS : Good C) (hi : Inv C K S η σ w) {src dst e : TypeId} (hs : C.und src = some (.slice e)) (he : isByteT C e = true) (hd : C.und dst = some .string) {X : Value} {ys : List V} (hx : Rel C K η (.row ys) X) {s : List UInt8} (h : bytesOf ys = some s) :
    (convert src dst X).run C.P w = .ok (.string ⟨s.toArray⟩) w := by
  obtain ⟨he1, he2⟩ := isByte_some he
  obtain ⟨ns, h1, rfl, h3⟩ := bytesOf_cells h
  cases hx with
  | row _ b o' cap k cvs g0 g1 g2 g3 g4 =>
    rw [h1] at g4
    have hcv := rel_ints g4
    refine run_convert_cells src e (hS.und _ _ hs) (hS.und _ _ he1) dst (hS.und _ _ hd) _ _ _ ns h3 fun j v hj => ?_
    rw [Addr.add_lit]
    rw [← hcv] at hj
    exact hi.kf _ _ (g3 j v hj)
  | rowNil p cap =>
    have hn : ns = [] := List.eq_nil_of_length_eq_zero h3
    subst hn
    cases p with
    | none => exact run_convert_bytes_nil w src e (hS.und _ _ hs) (hS.und _ _ he1) 0 cap dst (hS.und _ _ hd)
    | some p => exact run_convert_cells src e (hS.und _ _ hs) (hS.und _ _ he1) dst (hS.und _ _ hd) p 0 cap [] rfl (by simp)

theorem bytesMsl_run (hS : Good C) (hi : Inv C K S η σ w) {src dst e : TypeId} (hs : C.und src = some (.slice e)) (he : isByteT C e = true) (hd : C.und dst = some .string) {l g off len : Nat} {e' : TypeId} {X : Value} (hx : Rel C K η (.msl l g off len e') X) (hee : e' = e) {ys : List V} (hr : readMsl C e σ l g off len = some ys) {s : List UInt8} (h : bytesOf ys = some s) :
    (convert src dst X).run C.P w = .ok (.string ⟨s.toArray⟩) w := by
  subst hee
  obtain ⟨he1, he2⟩ := isByte_some he
  obtain ⟨ns, h1, rfl, h3⟩ := bytesOf_cells h
  obtain ⟨b, agg, k, q1, q2, q3, q4, q5, q6, rfl⟩ := readMsl_some hr
  obtain ⟨p1, p2, p3⟩ := getBlk_some q1
  obtain ⟨_, _, _, _, _, hok⟩ := hi.blk l b p1
  have hdl : len * k ≤ (b.cells.drop (off * k)).length := by rw [Nat.add_mul] at q4; simp; omega
  obtain ⟨f1, f2, f3⟩ := elems_flat agg k q5 q6 len (b.cells.drop (off * k)) hdl (oneL_drop hok.one _)
  rw [f3] at h3
  cases hx with
  | msl _ _ _ _ _ n room k' cap hh he' hg g3 g4 g5 =>
    rw [q3] at g3; cases g3
    obtain ⟨vs, hvr, hvc, _⟩ := hi.cells q1 he' hg
    have hrel : RelL C K η (flatV (elems agg k len (b.cells.drop (off * k)))) ((vs.drop (off * k)).take (len * k)) := by
      rw [f1]; exact (hvr.drop _).take _
    rw [h1] at hrel
    have hcv := rel_ints hrel
    refine run_convert_cells src e' (hS.und _ _ hs) (hS.und _ _ he1) dst (hS.und _ _ hd) _ _ _ ns h3 fun j v hj => ?_
    rw [Addr.add_lit]
    rw [← hcv, List.getElem?_take] at hj
    split at hj
    · rw [List.getElem?_drop] at hj
      exact hvc _ _ hj
    · cases hj
  | mslNil _ _ _ _ n room hh he' hg hne p cap =>
    have hn : ns = [] := List.eq_nil_of_length_eq_zero h3
    subst hn
    cases p with
    | none => exact run_convert_bytes_nil w src e' (hS.und _ _ hs) (hS.und _ _ he1) 0 cap dst (hS.und _ _ hd)
    | some p => exact run_convert_cells src e' (hS.und _ _ hs) (hS.und _ _ he1) dst (hS.und _ _ hd) p 0 cap [] rfl (by simp)

/-! ### Text to bytes -/
theorem freeze_heap (w : World) (arr : Array Value) (e : TypeId) : (((w.drew.alloc (.cells arr e)).freeze { block := w.heap.size, off := arr.size } 1).heap) = w.heap.push (.cells arr e (arr.size, arr.size + 1)) := by
  apply Array.ext_getElem?
  intro i
  simp only [World.freeze, World.alloc, World.drew, if_neg (show ¬ (1 = 0) by omega), Array.getElem?_modify, Array.getElem?_push]
  by_cases hi : i = w.heap.size
  · subst hi; simp
  · have : w.heap.size ≠ i := fun h => hi h.symm
    simp [hi, this]

theorem run_stringToBytes (e : TypeId) (s : ByteArray) : ∃ w' arr cap, (Conv.stringToBytes e s).run C.P w = .ok (.slice (some ⟨w.heap.size, 0, none⟩) s.size cap) w' ∧ w'.heap = w.heap.push (.cells arr e (arr.size, arr.size + 1)) ∧ w'.os = w.os ∧ w'.tape = w.tape ∧ w'.output = w.output ∧
    s.size ≤ cap ∧ arr.toList.take s.size = s.data.toList.map (fun b => Value.int .u8 b.toNat) ∧ s.size ≤ arr.size := by
  have hge := grownCap_ge w s.size 0 e
  have hds : s.data.size = s.size := rfl
  refine ⟨_, (s.data.map (fun b => Value.int .u8 b.toNat) ++ Array.replicate (grownCap w s.size 0 e - s.size) (.int .u8 0)), grownCap w s.size 0 e, ?_, freeze_heap w _ e, rfl, rfl, rfl, hge, ?_, ?_⟩
  · have hnf : (Question.appendCap s.size 0 e).forced = false := rfl
    have hsh : ∀ arr : Array Value, (w.drew.alloc (.cells arr e)).shape? w.heap.size = some (e, arr.size) := fun arr => by
      have hh : (w.drew.alloc (.cells arr e)).heap[w.heap.size]? = some (.cells arr e) := heap_alloc_new w.drew _
      unfold World.shape?
      rw [hh]
    simp [Conv.stringToBytes, hnf, Go.newRow, markStringish, hsh, grownCap]
  · simp only [Array.toList_append, Array.toList_map]
    rw [List.take_append_of_le_length (by simp [hds]), List.take_of_length_le (by simp [hds])]
  · simp [hds]

end
end MI

namespace MI
open Go

section
variable {C : Cfg} {S : Nat → Prop} {K : Kf} {η : List Hist} {σ : Mem} {w w' : World} {fr : Fr} {xs : List Value} {a : Act} {o : Oper} {E : Env}

/-- Marks of what is frozen turn, nothing else. -/
theorem To.mark (hi : Inv C K S η σ w) (hf : FrOK C K S η w fr xs) {l : Nat} {b : Blk} {h : Hist} {n room : Nat} (hb : σ[l]? = some b) (he : η[l]? = some h) (hg : h b.gen = some (n, room)) {cur : Array Value} {ty : TypeId} {fz fz' : Nat × Nat}
    (hh : w.heap[n]? = some (.cells cur ty fz)) (hh' : w'.heap[n]? = some (.cells cur ty fz')) (hc : Chg (fun k => k = n) w w') (hz : b.frozen = true ∨ (b.grow = false ∧ FzOK fz' b.cells.length)) : To C S K η w K η σ w' fr xs := by
  have hT : Touch η n := ⟨l, h, b.gen, room, he, hg⟩
  have hnt := hi.tlt n hT
  have hcell : ∀ ad : Addr, ad.block < w.heap.size → w'.cell? ad = w.cell? ad := fun ad hlt => by
    by_cases hbn : ad.block = n
    · simp [World.cell?, hbn, hh, hh']
    · exact World.cell?_of_block (hc.block _ hlt hbn)
  refine ⟨Kf.le_refl _, KIn.refl _ _, Hle.refl _, hc.mono fun k e => e ▸ hnt.2, ⟨fun ad v hk => ?_, hi.len, fun l1 b1 hb1 => ?_, hi.inj, fun m hm => ?_, hi.top⟩, ?_⟩
  · rw [hcell ad (hi.kblock hk)]
    exact hi.kf ad v hk
  · obtain ⟨h1, n1, r1, he1, hg1, hok⟩ := hi.blk l1 b1 hb1
    by_cases hll : l1 = l
    · subst hll
      rw [hb] at hb1; cases hb1
      rw [he] at he1; cases he1
      rw [hg] at hg1; cases hg1
      obtain ⟨cur2, fz2, e1, e2, e3, e4, e5⟩ := hok.heap
      rw [hh] at e1
      cases e1
      refine ⟨_, _, _, he, hg, hok.kind, ⟨_, fz', hh', e2, e3, fun hf => ?_, fun g1 g2 => ?_⟩, hok.one, hok.still, hok.free, hok.held, fun q1 q2 => by
        obtain ⟨cur3, fz3, e6, e7⟩ := hok.exact q1 q2
        rw [hh] at e6; cases e6
        exact ⟨_, fz', hh', e7⟩⟩
      · rcases hz with hz | hz
        · rw [hz] at hf; cases hf
        · exact hz.2
      · rcases hz with hz | hz
        · rw [hz] at g2; cases g2
        · rw [hz.1] at g1; cases g1
    · have hne : n1 ≠ n := hi.inj l1 l b1 b h1 h n1 r1 n room hll hb1 hb he1 he hg1 hg
      exact ⟨h1, n1, r1, he1, hg1, hok.step (Kf.le_refl _) (Hle.refl _) (hc.block n1 (hi.tlt n1 ⟨l1, h1, b1.gen, r1, he1, hg1⟩).1 hne) hok.free⟩
  · have := hi.tlt m hm
    exact ⟨Nat.lt_of_lt_of_le this.1 hc.size, this.2⟩
  · exact hf.world (Kf.le_refl _) (Hle.refl _) hc (KIn.refl _ _) (fun m hm => .inl hm) fun m hm _ => hm ▸ hT

theorem chg_freeze (w : World) (ad : Addr) (n : Nat) : Chg (fun k => k = ad.block) w (w.freeze ad n) := by
  unfold World.freeze
  split
  · exact .refl _ _
  · exact ⟨rfl, rfl, rfl, by simp, fun k _ hk => by simp [Array.getElem?_modify, Ne.symm hk]⟩

theorem heap_freeze (w : World) (ad : Addr) (n : Nat) (hn : n ≠ 0) {cur : Array Value} {ty : TypeId} {fz : Nat × Nat} (h : w.heap[ad.block]? = some (.cells cur ty fz)) :
    (w.freeze ad n).heap[ad.block]? = some (.cells cur ty (if fz.1 == fz.2 then (ad.off, ad.off + n) else (min fz.1 ad.off, max fz.2 (ad.off + n)))) := by
  unfold World.freeze
  rw [if_neg hn]
  simp [Array.getElem?_modify, h]

/-- A row of bytes of the same type: its block is marked. -/
theorem convSame_to (hS : Good C) (hi : Inv C K S η σ w) (hf : FrOK C K S η w fr xs) {t e : TypeId} (hu : C.und t = some (.slice e)) (hbt : isByteT C e = true) {l g len : Nat} {e' : TypeId} {X : Value} (hX : Rel C K η (.msl l g 0 len e') X) {b : Blk} (hb : getBlk σ l g = some b) (hgr : b.grow = false) (hfr : b.frozen = false ∨ True) :
    ∃ w', (convert t t X).run C.P w = .ok X w' ∧ To C S K η w K η σ w' (.msl l g 0 len e' :: fr) (X :: xs) := by
  obtain ⟨q1, q2, q3⟩ := getBlk_some hb
  obtain ⟨h', n', room', he', hg', hok⟩ := hi.blk l b q1
  obtain ⟨cur, fz, hh, hcl, hcr, hcz, hcg⟩ := hok.heap
  have hr := hX
  cases hX with
  | mslNil _ _ _ _ nb room hist g1 g2 g3 ad cap => exact absurd rfl g3
  | msl _ _ _ _ _ nb room kk cap hist g1 g2 g3 g4 g5 =>
    rw [g1] at he'
    obtain rfl : hist = h' := Option.some.inj he'
    rw [q2, g2] at hg'
    obtain ⟨rfl, rfl⟩ : nb = n' ∧ room = room' := by simpa using hg'
    have hsh : w.shape? nb = some (b.ty, cur.size) := by simp [World.shape?, hh]
    refine ⟨w.freeze { block := nb, off := cur.size } 1, ?_, ?_⟩
    · simp [convert, run_underlying (hS.und _ _ hu), run_underlying (hS.und _ _ (isByte_some hbt).1), markStringish, hsh]
    · have hto : To C S K η w K η σ (w.freeze { block := nb, off := cur.size } 1) fr xs := by
        refine To.mark hi hf q1 g1 (by rw [q2]; exact g2) hh (heap_freeze w { block := nb, off := cur.size } 1 (by omega) hh) (chg_freeze w { block := nb, off := cur.size } 1) ?_
        cases hbf : b.frozen with
        | true => exact .inl rfl
        | false =>
          refine .inr ⟨hgr, ?_⟩
          have := hcz hbf
          split
          · exact .inr ⟨hcl, by simp⟩
          · rename_i hne
            simp only [beq_iff_eq] at hne
            rcases this with h | h
            · exact absurd h hne
            · refine .inr ⟨?_, ?_⟩
              · simp only [Nat.le_min]; exact ⟨h.1, hcl⟩
              · exact Nat.le_trans (Nat.le_trans (Nat.min_le_left _ _) h.2) (Nat.le_max_left _ _)
      exact ⟨hto.kle, hto.kin, hto.hle, hto.chg, hto.inv, hto.fr.cons hr (by simp)⟩

theorem convV_to (hS : Good C) (hi : Inv C K S η σ w) (hf : FrOK C K S η w fr xs) (hF : Fresh S w) {f : FuncId} {src dst : TypeId} {x : V} {X : Value} (hx : Rel C K η x X) {v : V} {σ' : Mem} (h : (convV C f src dst x σ).run E = some (v, σ')) :
    ∃ K' η' w' r, (convert src dst X).run C.P w = .ok r w' ∧ Grows w w' ∧ To C S K η w K' η' σ' w' (v :: fr) (r :: xs) := by
  have plain : ∀ {r : Value}, (convert src dst X).run C.P w = .ok r w → Rel C K η v r → (∀ e ys, v ≠ .own e ys) → σ' = σ → ∃ K' η' w' r, (convert src dst X).run C.P w = .ok r w' ∧ Grows w w' ∧ To C S K η w K' η' σ' w' (v :: fr) (r :: xs) := fun {r} h1 h2 h3 h4 => by
    subst h4
    exact ⟨K, η, w, r, h1, Grows.refl w, .refl hi (hf.cons h2 h3)⟩
  unfold convV at h
  split at h
  · rename_i d k k' n hs hd
    cases h
    rw [rel_int hx] at plain ⊢
    exact plain (r := .int k (k.wrap n)) (by simp [convert, run_underlying (hS.und _ _ hs), run_underlying (hS.und _ _ hd), Conv.intToInt]) (.int _ _) (by simp) rfl
  · rename_i k k' n hs hd
    cases h
    rw [rel_int hx] at plain ⊢
    exact plain (r := .string (Utf8.encode n)) (by simp [convert, run_underlying (hS.und _ _ hs), run_underlying (hS.und _ _ hd), Conv.intToString]) (.str _) (by simp) rfl
  · rename_i s hs hd
    cases h
    obtain ⟨s', rfl, rfl⟩ := rel_str hx
    exact plain (r := .string s') (by simp [convert, run_underlying (hS.und _ _ hs), run_underlying (hS.und _ _ hd)]) (.str _) (by simp) rfl
  · rename_i e s hs hd
    obtain ⟨s', rfl, rfl⟩ := rel_str hx
    split at h
    · rename_i hbt
      obtain ⟨he1, he2⟩ := isByte_some hbt
      obtain ⟨w', arr, cap, h1, h2, h3, h4, h5, h6, h7, h8⟩ := run_stringToBytes (C := C) (w := w) e s'
      have hconv : (convert src dst (.string s')).run C.P w = .ok (.slice (some ⟨w.heap.size, 0, none⟩) s'.size cap) w' := by
        simp [convert, run_underlying (hS.und _ _ hs), run_underlying (hS.und _ _ hd), run_underlying (hS.und _ _ he1), h1]
      have hlen : (s'.data.toList.map byteV).length = s'.size := by rw [List.length_map]; rfl
      split at h
      · cases h
        have hto := To.alloc (w' := w') hi hf hF h2 h3 h4 h5 (s'.data.toList.map byteV) false 0 (by rw [hlen, h7]; exact byteV_rel _) (by rw [hlen]; exact h8) (byteV_one _) (.inr ⟨by rw [hlen]; exact h8, Nat.le_succ _⟩) (by simp) (by simp) (fun _ hq => by rw [hbt] at hq; cases hq)
        refine ⟨K, _, w', _, hconv, chg_push h2 h3 h4 h5, hto.kle, hto.kin, hto.hle, hto.chg, hto.inv, hto.fr.cons ?_ (by simp [newRow])⟩
        have hl2 : s'.data.toList.length = s'.size := rfl
        have := Rel.msl (C := C) (K := K) (η := η ++ [fun g => if g = 0 then some (w.heap.size, 0) else none]) σ.length 0 0 s'.size e w.heap.size 0 1 cap (fun g => if g = 0 then some (w.heap.size, 0) else none)
          (by rw [List.getElem?_append_right (by rw [hi.len]; exact Nat.le_refl _)]; simp [hi.len]) (by simp) he2 h6 (fun h => by omega)
        simpa [newRow, hl2] using this
      · cases h
        have hto := To.newK (w' := w') hi hf hF h2 h3 h4 h5 (s'.data.toList.map (fun b => Value.int .u8 b.toNat)) (fun j c hj => by
          rw [← h7, List.getElem?_take] at hj
          split at hj
          · simpa using hj
          · cases hj)
        refine ⟨_, η, w', _, hconv, chg_push h2 h3 h4 h5, hto.kle, hto.kin, hto.hle, hto.chg, hto.inv, hto.fr.cons ?_ (by simp)⟩
        have := Rel.row (C := C) (K := addK K w.heap.size (s'.data.toList.map (fun b => Value.int .u8 b.toNat))) (η := η) (s'.data.toList.map byteV) w.heap.size 0 cap 1 _ (by rw [hlen]; exact h6) (by simp [byteV, V.cells]) (by rw [byteV_flat]; exact byteV_one _) (addK_holds _ _ _) (by rw [byteV_flat]; exact byteV_rel _)
        rwa [hlen] at this
    · cases h
  · rename_i e hs hd
    split at h
    · rename_i hbt
      split at h
      · rename_i ys
        split at h
        · rename_i s hb
          cases h
          exact plain (bytesStr_run hS hi hs hbt hd hx hb) (strRel _) (by simp) rfl
        · cases h
      · rename_i e' ys
        split at h
        · rename_i s hb
          cases h
          exact plain (bytesStr_run hS hi hs hbt hd (rel_own hx) hb) (strRel _) (by simp) rfl
        · cases h
      · cases h
        exact plain (bytesStr_run (η := η) (K := K) hS hi hs hbt hd (X := X) (ys := []) (by rw [rel_nils hx]; exact .rowNil _ _) rfl) (strRel _) (by simp) rfl
      · rename_i l g off len e'
        split at h
        · rename_i hee
          split at h
          · rename_i ys hy
            split at h
            · rename_i s hb
              cases h
              exact plain (bytesMsl_run hS hi hs hbt hd hx hee hy hb) (strRel _) (by simp) rfl
            · cases h
          · cases h
        · cases h
      · cases h
    · cases h
  · cases h

theorem Inv.grows (hi : Inv C K S η σ w) (hg : Grows w w') : Inv C K S η σ w' :=
  ⟨fun a v h => hg.cell (hi.kf a v h), hi.len, fun l b hb => by
    obtain ⟨h, n, room, he, hh, hok⟩ := hi.blk l b hb
    have hn := (hi.tlt n ⟨l, h, b.gen, room, he, hh⟩).1
    exact ⟨h, n, room, he, hh, hok.step (Kf.le_refl _) (Hle.refl _) (hg.block n hn (by omega)) hok.free⟩, hi.inj, fun n hn => ⟨Nat.lt_of_lt_of_le (hi.tlt n hn).1 hg.size, (hi.tlt n hn).2⟩, hi.top⟩

/-- To a text: nothing turns. -/
theorem convStr_run (hS : Good C) (hi : Inv C K S η σ w) {f : FuncId} {src dst : TypeId} (hd : C.und dst = some .string) {x : V} {X : Value} (hx : Rel C K η x X) {v : V} {σ' : Mem} (h : (convV C f src dst x σ).run E = some (v, σ')) :
    ∃ r, (∀ w2, Grows w w2 → (convert src dst X).run C.P w2 = .ok r w2) ∧ Rel C K η v r ∧ σ' = σ ∧ ∀ e ys, v ≠ .own e ys := by
  unfold convV at h
  rw [hd] at h
  split at h
  · rename_i h1; cases h1
  · rename_i k k' n hs _
    cases h
    rw [rel_int hx]
    exact ⟨.string (Utf8.encode n), fun w2 _ => by simp [convert, run_underlying (hS.und _ _ hs), run_underlying (hS.und _ _ hd), Conv.intToString], .str _, rfl, by simp⟩
  · rename_i s hs _
    cases h
    obtain ⟨s', rfl, rfl⟩ := rel_str hx
    exact ⟨.string s', fun w2 _ => by simp [convert, run_underlying (hS.und _ _ hs), run_underlying (hS.und _ _ hd)], .str _, rfl, by simp⟩
  · rename_i h1; cases h1
  · rename_i e hs _
    split at h
    · rename_i hbt
      split at h
      · rename_i ys
        split at h
        · rename_i s hb
          cases h
          exact ⟨_, fun w2 hw => bytesStr_run hS (hi.grows hw) hs hbt hd hx hb, strRel _, rfl, by simp⟩
        · cases h
      · rename_i e' ys
        split at h
        · rename_i s hb
          cases h
          exact ⟨_, fun w2 hw => bytesStr_run hS (hi.grows hw) hs hbt hd (rel_own hx) hb, strRel _, rfl, by simp⟩
        · cases h
      · cases h
        exact ⟨_, fun w2 hw => bytesStr_run (η := η) (K := K) hS (hi.grows hw) hs hbt hd (X := X) (ys := []) (by rw [rel_nils hx]; exact .rowNil _ _) rfl, strRel _, rfl, by simp⟩
      · rename_i l g off len e'
        split at h
        · rename_i hee
          split at h
          · rename_i ys hy
            split at h
            · rename_i s hb
              cases h
              exact ⟨_, fun w2 hw => bytesMsl_run hS (hi.grows hw) hs hbt hd hx hee hy hb, strRel _, rfl, by simp⟩
            · cases h
          · cases h
        · cases h
      · cases h
    · cases h
  · cases h

theorem ok_convStr (hS : Good C) (hG : GlobOK C K) (hi : Inv C K S η σ w) (hf : FrOK C K S η w fr a.tmps.toList) {f : FuncId} {src dst : TypeId} {x : Operand} (ho : o.op = .convert src dst x) (hd : C.und dst = some .string) {v : V} {σ' : Mem}
    (h : (convV C f src dst (evalV C fr x).un σ).run E = some (v, σ')) : Still C S K η w a o v fr (Grows w) ∧ σ' = σ := by
  obtain ⟨r, h1, h2, h3, h4⟩ := convStr_run hS hi hd (evalV_rel hG hf.rel x).un h
  exact ⟨.mk' hf (x := r) (fun w2 hw => by simp only [execOp, ho]; exact run_v _ _ _ (h1 w2 hw)) h2 h4, h3⟩

theorem ok_convert (hS : Good C) (hG : GlobOK C K) (hi : Inv C K S η σ w) (hf : FrOK C K S η w fr a.tmps.toList) (hF : Fresh S w) {f : FuncId} {src dst : TypeId} {x : Operand} (ho : o.op = .convert src dst x) {v : V} {σ' : Mem}
    (h : (convV C f src dst (evalV C fr x).un σ).run E = some (v, σ')) : OpOK C S K η w a o v fr σ' True := by
  obtain ⟨K', η', w', r, h1, hg, h2⟩ := convV_to (xs := a.tmps.toList) hS hi hf hF (evalV_rel hG hf.rel x).un h
  exact .value (by simp only [execOp, ho]; exact run_v _ _ _ h1) h2 (fun _ => hg)

theorem ok_convSame (hS : Good C) (hG : GlobOK C K) (hi : Inv C K S η σ w) (hf : FrOK C K S η w fr a.tmps.toList) {t : TypeId} {x : Operand} (ho : o.op = .convert t t x) {e : TypeId} (hu : C.und t = some (.slice e)) (hbt : isByteT C e = true) {l g len : Nat} {e' : TypeId} (hx : (evalV C fr x).un = .msl l g 0 len e') {b : Blk} (hb : getBlk σ l g = some b) (hgr : b.grow = false) :
    OpOK C S K η w a o (.msl l g 0 len e') fr σ := by
  have hr := (evalV_rel hG hf.rel x).un
  rw [hx] at hr
  obtain ⟨w', h1, h2⟩ := convSame_to (xs := a.tmps.toList) hS hi hf hu hbt hr hb hgr (.inr trivial)
  exact .value (by simp only [execOp, ho]; exact run_v _ _ _ h1) h2

/-! ### Texts without a copy -/
theorem ok_sliceData (hG : GlobOK C K) (hf : FrOK C K S η w fr a.tmps.toList) (c : Call) (ho : o.op = .call c) (hc : c.callee = .builtin .unsafeSliceData) (x : Operand) (ha : c.args.toList = [x]) :
    (evalV C fr x = .nils → Still C S K η w a o .nilptr fr (fun _ => True)) ∧ (∀ l g n e, evalV C fr x = .msl l g 0 (n + 1) e → Still C S K η w a o (.ptr l g 0) fr (fun _ => True)) := by
  have hr := evalV_rel hG hf.rel x
  have hexec : ∀ (w : World) r, (Builtin.unsafeSliceData_ c.argTypes o.type #[a.eval x]).run C.P w = .ok r w → (execOp a.eval o).run C.P w = .ok (.value r) w := fun w r hrun => by
    rw [exec_builtin ho hc, toList_one ha, show #[x].map a.eval = #[a.eval x] by simp]
    exact run_v _ _ _ hrun
  constructor
  · intro hx
    rw [hx] at hr
    refine .mk0 hf (x := .pointer none) (fun w => hexec w _ ?_) .nilptr (by simp)
    rw [rel_nils hr]
    rfl
  · intro l g n e hx
    rw [hx] at hr
    generalize hX : a.eval x = X at hr hexec
    cases hr with
    | msl _ _ _ _ _ nb room kk cap hist g1 g2 g3 g4 g5 =>
      refine .mk0 hf (x := .pointer (some ⟨nb, 0 * kk, none⟩)) (fun w => hexec w _ ?_) ?_ (by simp)
      · exact Lib.run_unsafeSliceData_row w _ _ _ _ _ (by omega)
      · rw [Nat.zero_mul]; exact .ptr _ _ _ nb room hist g1 g2

theorem ok_unsafeNil (hG : GlobOK C K) (hi : Inv C K S η σ w) (hf : FrOK C K S η w fr a.tmps.toList) (c : Call) (ho : o.op = .call c) (hc : c.callee = .builtin .unsafeString) (x y : Operand) (ha : c.args.toList = [x, y]) {pt it : TypeId} (hta : c.argTypes.toList = [pt, it]) (hx : evalV C fr x = .nilptr) (hy : evalV C fr y = .int .i64 0) :
    OpOK C S K η w a o (.str []) fr σ := by
  have hrx := evalV_rel hG hf.rel x
  have hry := evalV_rel hG hf.rel y
  rw [hx] at hrx; rw [hy] at hry
  have h1 : a.eval x = .pointer none := by generalize a.eval x = z at hrx; cases hrx; rfl
  refine .pure' hi hf (x := .string ByteArray.empty) ?_ (strRel []) (by simp)
  rw [exec_builtin ho hc, toList_two ha, toList_two hta, show #[x, y].map a.eval = #[a.eval x, a.eval y] by simp, h1, rel_int hry]
  exact run_v _ _ _ (Lib.run_unsafeString_none w pt it o.type none)

theorem ok_unsafeString (hS : Good C) (hG : GlobOK C K) (hi : Inv C K S η σ w) (hf : FrOK C K S η w fr a.tmps.toList) (c : Call) (ho : o.op = .call c) (hc : c.callee = .builtin .unsafeString) (x y : Operand) (ha : c.args.toList = [x, y]) {pt it : TypeId} (hta : c.argTypes.toList = [pt, it]) {l g : Nat} (hx : evalV C fr x = .ptr l g 0)
    {b : Blk} (hb : getBlk σ l g = some b) (hy : evalV C fr y = .int .i64 b.cells.length) (hpt : C.und pt = some (.pointer b.ty)) (hbt : isByteT C b.ty = true) (hpos : 0 < b.cells.length) (hmost : b.cells.length ≤ mostRow) (hokb : okBytes b.cells = true) {s : List UInt8} (hs : bytesOf b.cells = some s) :
    OpOK C S K η w a o (.str s) fr (σ.set l { b with frozen := true }) := by
  have hrx := evalV_rel hG hf.rel x
  have hry := evalV_rel hG hf.rel y
  rw [hx] at hrx; rw [hy] at hry
  obtain ⟨q1, q2, q3⟩ := getBlk_some hb
  obtain ⟨h', n', room', he', hg', hok⟩ := hi.blk l b q1
  obtain ⟨cur, fz, hh, hcl, hcr, hcz, hcg⟩ := hok.heap
  obtain ⟨X, hX⟩ : ∃ X, X = a.eval x := ⟨_, rfl⟩
  rw [← hX] at hrx
  cases hrx with
  | ptr _ _ _ nb room hist g1 g2 =>
    rw [g1] at he'
    obtain rfl : hist = h' := Option.some.inj he'
    rw [q2, g2] at hg'
    obtain ⟨rfl, rfl⟩ : nb = n' ∧ room = room' := by simpa using hg'
    obtain ⟨hb1, hb2⟩ := isByte_some hbt
    obtain ⟨ii, hinf, hsz, _⟩ := hS.siz _ _ hb2
    have hco : C.P.cellsOf b.ty = 1 := by simp [Program.cellsOf, hinf, hsz]
    obtain ⟨ns, hn1, rfl, hn3⟩ := bytesOf_cells hs
    have hflat : flatV b.cells = b.cells := by
      have hone := hok.one
      have : ∀ cs : List V, oneL cs = true → flatV cs = cs := fun cs => by
        induction cs with
        | nil => intro _; rfl
        | cons v r ih =>
          intro h
          simp only [oneL, Bool.and_eq_true] at h
          rw [flatV, V.one_cells h.1, ih h.2]
          rfl
      exact this _ hone
    rw [hflat] at hn1
    have hcv := hcr
    rw [hn1] at hcv
    have hcv' := rel_ints hcv
    have hnb := okBytes_ns (ns := ns) (by rw [← hn1]; exact hokb)
    have hll : (ns.map fun n => UInt8.ofNat n.toNat).length = b.cells.length := by rw [List.length_map, hn3]
    have hsh : w.shape? nb = some (b.ty, cur.size) := by simp [World.shape?, hh]
    have hrun := Lib.run_unsafeString_row (P := C.P) w pt it o.type b.ty (hS.und _ _ hpt) hco nb cur.size hsh (ns.map fun n => UInt8.ofNat n.toNat) (fun e => by rw [e] at hll; simp at hll; omega) (by omega) (by simp only [mostRow] at hmost; omega) (fun j u hj => by
      rw [Addr.add_lit, Nat.zero_add]
      rw [List.getElem?_map] at hj
      cases hnj : ns[j]? with
      | none => simp [hnj] at hj
      | some m =>
        rw [hnj] at hj
        simp only [Option.map_some, Option.some.injEq] at hj
        subst hj
        have hjlt : j < b.cells.length := by rw [← hn3]; exact (List.getElem?_eq_some_iff.1 hnj).1
        have h3 : (cur.toList.take b.cells.length)[j]? = some (.int .u8 m) := by
          rw [hn1] at hjlt ⊢
          rw [hcv', List.getElem?_map, hnj]; rfl
        rw [List.getElem?_take, if_pos hjlt] at h3
        have hm := hnb m (List.mem_of_getElem? hnj)
        have hmn : ((UInt8.ofNat m.toNat).toNat : Int) = m := by
          rw [UInt8.toNat_ofNat']
          omega
        rw [hmn]
        simp [World.cell?, hh]
        simpa using h3)
    rw [hll] at hrun
    -- first nothing turns but what is known, then the marks
    obtain ⟨K', hle, hin, hinv, hvs⟩ := hi.freeze q1
    have hk : Knows C S η w K K' (σ.set l { b with frozen := true }) := ⟨hle, hin, hinv⟩
    have hto1 := hk.to hf
    have hlσ : l < σ.length := (List.getElem?_eq_some_iff.1 q1).1
    have hto2 := To.mark (w' := w.freeze ⟨nb, 0, none⟩ b.cells.length) hto1.inv hto1.fr (l := l) (b := { b with frozen := true }) (h := hist) (n := nb) (room := room) (by rw [List.getElem?_set, if_pos rfl, if_pos hlσ]) g1 (by simpa [q2] using g2) hh (heap_freeze w ⟨nb, 0, none⟩ _ (by omega) hh) (chg_freeze w ⟨nb, 0, none⟩ _) (.inl rfl)
    have hto := hto1.trans hto2
    refine .value (x := .string ⟨(ns.map fun n => UInt8.ofNat n.toNat).toArray⟩) ?_ ⟨hto.kle, hto.kin, hto.hle, hto.chg, hto.inv, hto.fr.cons (strRel _) (by simp)⟩ False.elim
    rw [exec_builtin ho hc, toList_two ha, toList_two hta, show #[x, y].map a.eval = #[a.eval x, a.eval y] by simp, ← hX, rel_int hry]
    exact run_v _ _ _ hrun

end
end MI

namespace MI
open Go

def depsOf (ops : Array Oper) (i : Nat) : List Nat :=
  match ops[i]? with
  | some o => (o.after.toList.filter fun e => Region.binds .any e).map (·.on)
  | none => []

/-- Does j wait for i, so many links away at most? -/
def waitsN (ops : Array Oper) (i : Nat) : Nat → Nat → Bool
  | 0, _ => false
  | n + 1, j => (depsOf ops j).any fun k => k == i || waitsN ops i n k

/-- The next one of an order: may it be taken first? -/
def okStep (C : Cfg) (ops : Array Oper) (done : List Nat) (i : Nat) : Bool :=
  match ops[i]? with
  | none => false
  | some o =>
    !done.contains i && (depsOf ops i).all (fun k => Nat.blt k ops.size && done.contains k) &&
    (if kindO C o ≤ 1 then (List.range ops.size).all fun j => j == i || done.contains j || waitsN ops i 4 j || match ops[j]? with
        | some oj => o.apart ops oj && (kindO C o == 0 || kindO C oj ≤ 2)
        | none => true
     else (List.range ops.size).all fun j => j == i || done.contains j || !((depsOf ops j).all (done.contains ·)))

/-- Whoever may come up is one of two. -/
def okBoth (ops : Array Oper) (done : List Nat) (i j : Nat) : Bool :=
  Nat.blt i ops.size && (!done.contains i && (depsOf ops i).all (fun k => Nat.blt k ops.size && done.contains k)) &&
  (List.range ops.size).all fun k => k == i || k == j || done.contains k || !((depsOf ops k).all (done.contains ·))

def okPlan (C : Cfg) (ops : Array Oper) : Nat → List Nat → Plan → Bool
  | 0, done, .stop => (List.range ops.size).all (done.contains ·)
  | n + 1, done, .take i r => okStep C ops done i && okPlan C ops n (i :: done) r
  | n + 1, done, .both i j p q => okBoth ops done i j && (okPlan C ops n (i :: done) p && okPlan C ops n (j :: done) q)
  | _, _, _ => false

section
variable {P : Program} {ops : Array Oper} {Q : Exit → Act → World → Prop} {mild : Nat → Bool}

def wpAnyR (P : Program) (ops : Array Oper) (Q : Exit → Act → World → Prop) (mild : Nat → Bool) : Nat → Array Bool → Act → World → Prop
  | 0, listed, a, w => Region.ready .any ops listed = [] ∧ Q .normal a w
  | fuel + 1, listed, a, w =>
    (Region.ready .any ops listed = [] → Q .normal a w) ∧
    ∀ i ∈ Region.ready .any ops listed, wpOp P ops Q i (fun a' w' => (mild i = true → Grows w w') ∧ wpAnyR P ops Q mild fuel (listed.setIfInBounds i true) a' w') a w

theorem wpAny_of_R : ∀ (fuel : Nat) (listed : Array Bool) (a : Act) (w : World), wpAnyR P ops Q mild fuel listed a w → wpAny P .any ops Q fuel listed a w
  | 0, _, _, _, h => h
  | fuel + 1, _, _, _, h => ⟨h.1, fun i hi => wpOp_mono (fun a' w' h' => wpAny_of_R fuel _ a' w' h'.2) (h.2 i hi)⟩

/-- Whatever has come up, what it waits for has. -/
def Closed (ops : Array Oper) (listed : Array Bool) : Prop := ∀ j, listed.getD j false = true → ∀ k ∈ depsOf ops j, listed.getD k false = true

theorem mem_deps {j k : Nat} : k ∈ depsOf ops j ↔ ∃ o, ops[j]? = some o ∧ ∃ e ∈ o.after, Region.binds .any e = true ∧ e.on = k := by
  unfold depsOf
  cases ops[j]? with
  | none => simp
  | some o => simp [and_assoc]

theorem waits_not_ready {i : Nat} {listed : Array Bool} (hc : Closed ops listed) (hi : listed.getD i false = false) : ∀ (n j : Nat), waitsN ops i n j = true → ¬ (∀ k ∈ depsOf ops j, listed.getD k false = true)
  | 0, j, h => by simp [waitsN] at h
  | n + 1, j, h => by
    intro hall
    simp only [waitsN, List.any_eq_true, Bool.or_eq_true, beq_iff_eq] at h
    obtain ⟨k, hk, h⟩ := h
    have hkl := hall k hk
    rcases h with rfl | h
    · rw [hi] at hkl; cases hkl
    · exact waits_not_ready hc hi n k h (hc k hkl)

theorem ready_deps {j : Nat} {listed : Array Bool} (hj : j ∈ Region.ready .any ops listed) : ∀ k ∈ depsOf ops j, listed.getD k false = true := fun k hk => by
  obtain ⟨_, o, ho, hall⟩ := mem_ready.1 hj
  obtain ⟨o', ho', e, he, hb, rfl⟩ := mem_deps.1 hk
  rw [ho] at ho'; cases ho'
  exact hall e he hb

theorem closed_set {j : Nat} {listed : Array Bool} (hc : Closed ops listed) (hj : ∀ k ∈ depsOf ops j, listed.getD k false = true) : Closed ops (listed.setIfInBounds j true) := fun i hi k hk => by
  by_cases hij : j = i
  · subst hij
    exact getD_set_true (hj k hk)
  · rw [getD_set_ne false hij] at hi
    exact getD_set_true (hc i hi k hk)

/-- What holds for a world's successors holds for a successor's. -/
def Kept (T : World → World → Prop) (mild : Bool) : Prop := ∀ w w' w2, (mild = true → Grows w w') → T w' w2 → T w w2

theorem wpAnyR_first (hQ : ∀ c a w, ¬ Q (.panic c) a w) (hsel : ∀ (j : Nat) (o : Oper) cs b, ops[j]? = some o → o.op ≠ .select cs b) (T : World → World → Prop) (hT : ∀ w, T w w) {i : Nat} {oi : Oper} {v : Value} (hi : ops[i]? = some oi) :
    ∀ (fuel : Nat) (listed : Array Bool) (a : Act) (w : World), Closed ops listed →
      (∀ j oj, ops[j]? = some oj → j ≠ i → listed.getD j true = false → waitsN ops i 4 j = true ∨ (oi.apart ops oj = true ∧ Kept T (mild j))) →
      i ∈ Region.ready .any ops listed → YieldsIf P ops (T w) oi v a →
      (Kept T true) →
      wpAnyR P ops Q mild fuel (listed.setIfInBounds i true) (a.put oi.dst v) w → wpAnyR P ops Q mild (fuel + 1) listed a w := by
  intro fuel
  induction fuel with
  | zero =>
    intro listed a w hc _ hr hy _ H
    refine ⟨fun h => (by rw [h] at hr; cases hr), fun j hj => ?_⟩
    by_cases hji : j = i
    · subst hji; exact hy.wpOp hi (hT w) ⟨fun _ => Grows.refl w, H⟩
    · have := ready_mono hj hji
      rw [H.1] at this
      cases this
  | succ fuel ih =>
    intro listed a w hc hfree hr hy hKT H
    refine ⟨fun h => (by rw [h] at hr; cases hr), fun j hj => ?_⟩
    by_cases hji : j = i
    · subst hji; exact hy.wpOp hi (hT w) ⟨fun _ => Grows.refl w, H⟩
    · have h1 := H.2 j (ready_mono hj hji)
      obtain ⟨hjun, oj, hoj, hall⟩ := mem_ready.1 hj
      have hiun := (mem_ready.1 hr).1
      have hiun' : listed.getD i false = false := by
        rcases Nat.lt_or_ge i listed.size with h' | h'
        · simp [h'] at hiun ⊢; exact hiun
        · simp [Array.getElem?_eq_none h'] at hiun
      rcases hfree j oj hoj hji hjun with hw | ⟨hap, hkt⟩
      · exact absurd (ready_deps hj) (waits_not_ready hc hiun' 4 j hw)
      · have h2 := wpOp_putIf (S := T w) hoj hap (fun cs b => hsel i oi cs b hi) (fun cs b => hsel j oj cs b hoj) (fun c a w h => absurd h (hQ c _ _)) hy h1
        have hfree' : ∀ k ok, ops[k]? = some ok → k ≠ i → (listed.setIfInBounds j true).getD k true = false → waitsN ops i 4 k = true ∨ (oi.apart ops ok = true ∧ Kept T (mild k)) := fun k ok hk hki hun => by
          refine hfree k ok hk hki ?_
          by_cases hjk : j = k
          · subst hjk; exact hjun
          · rw [getD_set_ne true hjk] at hun; exact hun
        refine wpOp_mono (fun a' w' h3 => ⟨h3.2.1, ih (listed.setIfInBounds j true) a' w' (closed_set hc (ready_deps hj)) hfree' (ready_mono hr (Ne.symm hji)) ?_ hKT ?_⟩) h2
        · rcases h3.1 with ⟨hw, hv⟩ | hu
          · exact .inl ⟨hw, fun w2 hw2 => hv w2 (hkt w w' w2 h3.2.1 hw2)⟩
          · exact .inr hu
        · rw [Array.setIfInBounds_comm _ _ hji]
          exact h3.2.2

/-- The one that may come up. -/
theorem wpAnyR_only {i : Nat} {fuel : Nat} {listed : Array Bool} {a : Act} {w : World} (hr : i ∈ Region.ready .any ops listed) (hone : ∀ j ∈ Region.ready .any ops listed, j = i)
    (h : wpOp P ops Q i (fun a' w' => (mild i = true → Grows w w') ∧ wpAnyR P ops Q mild fuel (listed.setIfInBounds i true) a' w') a w) : wpAnyR P ops Q mild (fuel + 1) listed a w :=
  ⟨fun h => (by rw [h] at hr; cases hr), fun j hj => by rw [hone j hj]; exact h⟩

end

/-- An operation of a region, and what holds behind it. -/
def wpNext (C : Cfg) (ops : Array Oper) (Q : Exit → Act → World → Prop) (i : Nat) (R : Act → World → Prop) (a : Act) (w : World) : Prop :=
  ∃ o, ops[i]? = some o ∧
    (if kindO C o ≤ 1 then ∃ v, YieldsIf C.P ops (fun w2 => kindO C o = 0 ∨ Grows w w2) o v a ∧ R (a.put o.dst v) w
     else wpOp C.P ops Q i (fun a' w' => (kindO C o = 2 → Grows w w') ∧ R a' w') a w)

/-- A region by a plan. -/
def wpPlan (C : Cfg) (ops : Array Oper) (Q : Exit → Act → World → Prop) : Plan → Act → World → Prop
  | .stop, a, w => Q .normal a w
  | .take i r, a, w => wpNext C ops Q i (wpPlan C ops Q r) a w
  | .both i j p q, a, w => wpNext C ops Q i (wpPlan C ops Q p) a w ∧ wpNext C ops Q j (wpPlan C ops Q q) a w

def mildA (C : Cfg) (ops : Array Oper) (j : Nat) : Bool :=
  match ops[j]? with
  | some o => kindO C o == 2 || kindO C o ≤ 1
  | none => false

section
variable {C : Cfg} {ops : Array Oper} {Q : Exit → Act → World → Prop}

/-- What has come up, as an array and as a list. -/
structure Listed (n : Nat) (listed : Array Bool) (done : List Nat) : Prop where
  size : listed.size = n
  get : ∀ j d, j < n → listed.getD j d = done.contains j

theorem Listed.out {n : Nat} {listed : Array Bool} {done : List Nat} (h : Listed n listed done) {j : Nat} (hj : ¬ j < n) (d : Bool) : listed.getD j d = d := by
  have : ¬ j < listed.size := by rw [h.size]; exact hj
  simp [this]

theorem Listed.nil (n : Nat) : Listed n (Array.replicate n false) [] := ⟨by simp, fun j d hj => by simp [hj]⟩

theorem Listed.cons {n : Nat} {listed : Array Bool} {done : List Nat} (h : Listed n listed done) (i : Nat) : Listed n (listed.setIfInBounds i true) (i :: done) := by
  refine ⟨by simp [h.size], fun j d hj => ?_⟩
  by_cases hij : i = j
  · subst hij
    have : i < listed.size := by rw [h.size]; exact hj
    simp [this]
  · have hne : ¬ j = i := fun e => hij e.symm
    rw [getD_set_ne d hij, h.get j d hj]
    simp [hne]

theorem wpNext.op {i : Nat} {R : Act → World → Prop} {a : Act} {w : World} (h : wpNext C ops Q i R a w) : wpOp C.P ops Q i (fun a' w' => (mildA C ops i = true → Grows w w') ∧ R a' w') a w := by
  obtain ⟨o, ho, h⟩ := h
  split at h
  · obtain ⟨v, hy, hR⟩ := h
    exact hy.wpOp ho (.inr (Grows.refl w)) ⟨fun _ => Grows.refl w, hR⟩
  · rename_i hk
    refine wpOp_mono (fun a' w' h' => ⟨fun hm => h'.1 ?_, h'.2⟩) h
    unfold mildA at hm
    rw [ho] at hm
    simp only [Bool.or_eq_true, beq_iff_eq, decide_eq_true_eq] at hm
    omega

theorem any_of_plan (hQ : ∀ c a w, ¬ Q (.panic c) a w) (hsel : ∀ (j : Nat) (o : Oper) cs b, ops[j]? = some o → o.op ≠ .select cs b) :
    ∀ (n : Nat) (plan : Plan) (done : List Nat) (listed : Array Bool) (a : Act) (w : World), Listed ops.size listed done → Closed ops listed → okPlan C ops n done plan = true → wpPlan C ops Q plan a w →
      wpAnyR C.P ops Q (mildA C ops) n listed a w
  | 0, .stop, done, listed, a, w, hl, hc, hok, h => by
    simp only [okPlan, List.all_eq_true, List.mem_range] at hok
    refine ⟨?_, h⟩
    rw [List.eq_nil_iff_forall_not_mem]
    intro j hj
    obtain ⟨hun, o, ho, _⟩ := mem_ready.1 hj
    have hlt : j < ops.size := (Array.getElem?_eq_some_iff.1 ho).1
    rw [hl.get j true hlt, hok j hlt] at hun
    cases hun
  | n + 1, .take i r, done, listed, a, w, hl, hc, hok, h => by
    simp only [okPlan, Bool.and_eq_true] at hok
    obtain ⟨hst, hrest⟩ := hok
    obtain ⟨o, ho, h⟩ := h
    unfold okStep at hst
    rw [ho] at hst
    simp only [Bool.and_eq_true, Bool.not_eq_true'] at hst
    obtain ⟨⟨h1, h2⟩, h3⟩ := hst
    have hlt : i < ops.size := (Array.getElem?_eq_some_iff.1 ho).1
    have hdeps : ∀ k ∈ depsOf ops i, listed.getD k false = true := fun k hk => by
      have hkd := List.all_eq_true.1 h2 k hk
      rw [Bool.and_eq_true, Nat.blt_eq] at hkd
      rw [hl.get k false hkd.1]; exact hkd.2
    have hr : i ∈ Region.ready .any ops listed := mem_ready.2 ⟨by rw [hl.get i true hlt]; exact h1, o, ho, fun e he hb => hdeps _ (mem_deps.2 ⟨o, ho, e, he, hb, rfl⟩)⟩
    by_cases hk : kindO C o ≤ 1
    · rw [if_pos hk] at h3
      rw [if_pos hk] at h
      obtain ⟨v, hy, hseq⟩ := h
      have hrec := any_of_plan hQ hsel n r (i :: done) (listed.setIfInBounds i true) (a.put o.dst v) w (hl.cons i) (closed_set hc hdeps) hrest hseq
      refine wpAnyR_first hQ hsel (fun w w2 => kindO C o = 0 ∨ Grows w w2) (fun w => .inr (Grows.refl w)) ho n listed a w hc (fun j oj hj hji hun => ?_) hr hy (fun w w' w2 hg ht => ht.imp id (fun h => Grows.trans (hg rfl) h)) hrec
      have hjlt : j < ops.size := (Array.getElem?_eq_some_iff.1 hj).1
      have := List.all_eq_true.1 h3 j (List.mem_range.2 hjlt)
      rw [hj] at this
      simp only [Bool.or_eq_true, beq_iff_eq, Bool.and_eq_true, decide_eq_true_eq] at this
      rcases this with ((h | h) | h) | ⟨h, h'⟩
      · exact absurd h hji
      · rw [hl.get j true hjlt, h] at hun; cases hun
      · exact .inl h
      · refine .inr ⟨h, fun w w' w2 hg ht => ?_⟩
        rcases h' with h' | h'
        · exact .inl h'
        · refine ht.imp id fun ht => Grows.trans (hg ?_) ht
          unfold mildA
          rw [hj]
          simp only [Bool.or_eq_true, beq_iff_eq, decide_eq_true_eq]
          omega
    · rw [if_neg hk] at h3
      have hop := wpNext.op (C := C) (ops := ops) (Q := Q) (i := i) (R := wpPlan C ops Q r) (a := a) (w := w) ⟨o, ho, h⟩
      refine wpAnyR_only hr (fun j hj => ?_) ?_
      · obtain ⟨hun, oj, hoj, hall⟩ := mem_ready.1 hj
        have hjlt : j < ops.size := (Array.getElem?_eq_some_iff.1 hoj).1
        have := List.all_eq_true.1 h3 j (List.mem_range.2 hjlt)
        simp only [Bool.or_eq_true, beq_iff_eq, Bool.not_eq_true'] at this
        rcases this with (h | h) | h
        · exact h
        · rw [hl.get j true hjlt, h] at hun; cases hun
        · exfalso
          have hd := ready_deps hj
          have : (depsOf ops j).all (fun x => done.contains x) = true := List.all_eq_true.2 fun k hk => by
            have := hd k hk
            rcases Nat.lt_or_ge k ops.size with hk' | hk'
            · rw [hl.get k false hk'] at this; exact this
            · rw [hl.out (by omega)] at this; cases this
          rw [this] at h; cases h
      · exact wpOp_mono (fun a' w' h' => ⟨h'.1, any_of_plan hQ hsel n r (i :: done) (listed.setIfInBounds i true) a' w' (hl.cons i) (closed_set hc hdeps) hrest h'.2⟩) hop
  | n + 1, .both i j p q, done, listed, a, w, hl, hc, hok, h => by
    simp only [okPlan, Bool.and_eq_true] at hok
    obtain ⟨hb, hp, hq⟩ := hok
    unfold okBoth at hb
    simp only [Bool.and_eq_true, Bool.not_eq_true', Nat.blt_eq] at hb
    obtain ⟨⟨hil, hid, hideps⟩, hb⟩ := hb
    have hi : i ∈ Region.ready .any ops listed := mem_ready.2 ⟨by rw [hl.get i true hil]; exact hid, ops[i], by simp [hil], fun e he hbi => by
      have hk := List.all_eq_true.1 hideps e.on (mem_deps.2 ⟨ops[i], by simp [hil], e, he, hbi, rfl⟩)
      simp only [Bool.and_eq_true, Nat.blt_eq] at hk
      rw [hl.get _ false hk.1]; exact hk.2⟩
    have hready : ∀ k ∈ Region.ready .any ops listed, k = i ∨ k = j := fun k hk => by
      obtain ⟨hun, ok, hok', hall⟩ := mem_ready.1 hk
      have hklt : k < ops.size := (Array.getElem?_eq_some_iff.1 hok').1
      have := List.all_eq_true.1 hb k (List.mem_range.2 hklt)
      simp only [Bool.or_eq_true, beq_iff_eq, Bool.not_eq_true'] at this
      rcases this with ((h | h) | h) | h
      · exact .inl h
      · exact .inr h
      · rw [hl.get k true hklt, h] at hun; cases hun
      · exfalso
        have hd := ready_deps hk
        have : (depsOf ops k).all (fun x => done.contains x) = true := List.all_eq_true.2 fun m hm => by
          have := hd m hm
          rcases Nat.lt_or_ge m ops.size with hm' | hm'
          · rw [hl.get m false hm'] at this; exact this
          · rw [hl.out (by omega)] at this; cases this
        rw [this] at h; cases h
    have hone : ∀ {k : Nat} {r : Plan}, k ∈ Region.ready .any ops listed → okPlan C ops n (k :: done) r = true → wpNext C ops Q k (wpPlan C ops Q r) a w →
        wpOp C.P ops Q k (fun a' w' => (mildA C ops k = true → Grows w w') ∧ wpAnyR C.P ops Q (mildA C ops) n (listed.setIfInBounds k true) a' w') a w := fun {k r} hk hr hn =>
      wpOp_mono (fun a' w' h' => ⟨h'.1, any_of_plan hQ hsel n r (k :: done) (listed.setIfInBounds k true) a' w' (hl.cons k) (closed_set hc (ready_deps hk)) hr h'.2⟩) hn.op
    have hne : Region.ready .any ops listed = [] → Q .normal a w := fun hnil => by
      rw [hnil] at hi; cases hi
    refine ⟨hne, fun k hk => ?_⟩
    rcases hready k hk with rfl | rfl
    · exact hone hk hp h.1
    · exact hone hk hq h.2
  | 0, .take _ _, _, _, _, _, _, _, hok, _ => by simp [okPlan] at hok
  | 0, .both _ _ _ _, _, _, _, _, _, _, hok, _ => by simp [okPlan] at hok
  | _ + 1, .stop, _, _, _, _, _, _, hok, _ => by simp [okPlan] at hok

/-- A region that draws its order. -/
theorem wp_region_seq {id : Nat} {a : Act} {w : World} (hm : C.P.follows .mixedOrders = true) (hQ : ∀ c a w, ¬ Q (.panic c) a w) (hsel : Region.noSelect ops = true) {plan : Plan} (hok : okPlan C ops ops.size [] plan = true)
    (h : wpPlan C ops Q plan a { w with drawn := w.drawn + 1 }) : (Code.region id ops true).wp C.P Q a w := by
  refine wp_region_any hm ?_
  refine wpAny_of_R _ _ _ _ (any_of_plan hQ (fun j o cs b => Region.noSelect_spec hsel j o cs b) ops.size plan [] _ a _ (Listed.nil _) (fun j hj k _ => ?_) hok h)
  by_cases hjn : j < ops.size
  · simp [hjn] at hj
  · simp [hjn] at hj

end
end MI

namespace MI
open Go

/-- What a call may turn. -/
def CallS (kp : Bool) (η : List Hist) (args : List V) (xs : List Value) (w : World) (n : Nat) : Prop :=
  w.heap.size ≤ n ∨ (kp = true ∧ ∃ (i : Nat) (e : TypeId) (ys : List V) (x : Value), args[i]? = some (.own e ys) ∧ xs[i]? = some x ∧ x.ownBlock = some n) ∨ (lowL 0 args = false ∧ Touch η n)

/-- Behind a call. -/
def Ret (C : Cfg) (S : Nat → Prop) (K : Kf) (η : List Hist) (w : World) (T : Nat → Prop) (v : V) (σ' : Mem) (x : Value) (w' : World) : Prop :=
  ∃ K' η', K.le K' ∧ KIn T K K' ∧ Hle η η' ∧ Chg T w w' ∧ Inv C K' S η' σ' w' ∧ FrOK C K' S η' w' [v] [x] ∧ (∀ n, Touch η' n → Touch η n ∨ T n) ∧ (∀ e ys g, v = .own e ys → x.ownBlock = some g → T g)

/-- A call comes back. -/
def CallsTo (C : Cfg) (g : FuncId) (xs : Array Value) (w : World) (R : Value → World → Prop) : Prop :=
  (∃ x w', (callFunc g xs).run C.P w = .ok (.value x) w' ∧ R x w') ∨
  ((callFunc g xs).run C.P w = .ok (.enter g xs) w ∧ Calls C.P g xs w fun e w' => match e with
    | .returned x => R x w'
    | _ => False)

def CallOK (C : Cfg) (E : Env) : Prop :=
  ∀ g args σ v σ', E.call g args σ = some (v, σ') → ∀ K S η w xs, Inv C K S η σ w → Fresh S w → GlobOK C K → RelL C K η args xs → (C.keep g = true → FrOK C K S η w args xs) →
    CallsTo C g xs.toArray w (Ret C S K η w (CallS (C.keep g) η args xs w) v σ')

section
variable {C : Cfg} {S : Nat → Prop} {K : Kf} {η : List Hist} {σ : Mem} {w w' : World} {fr : Fr} {xs : List Value} {a : Act} {o : Oper} {E : Env}

theorem CallsTo.mono {g : FuncId} {ys : Array Value} {R R' : Value → World → Prop} (h : CallsTo C g ys w R) (hm : ∀ x w', R x w' → R' x w') : CallsTo C g ys w R' := by
  rcases h with ⟨x, w', h1, h2⟩ | ⟨h1, h2⟩
  · exact .inl ⟨x, w', h1, hm _ _ h2⟩
  · refine .inr ⟨h1, Calls.mono h2 fun e w'' he => ?_⟩
    cases e with
    | returned x => exact hm _ _ he
    | _ => exact he

/-- An operation that is a call. -/
theorem wp_calls {g : FuncId} {ys : Array Value} (hx : (execOp a.eval o).run C.P w = (callFunc g ys).run C.P w) {next : Act → World → Prop} {Q : Exit → Act → World → Prop} (h : CallsTo C g ys w fun x w' => next (a.put o.dst x) w') : o.wp C.P a w next Q := by
  unfold Oper.wp
  rw [hx]
  rcases h with ⟨x, w', h1, h2⟩ | ⟨h1, h2⟩
  · rw [h1]; exact h2
  · rw [h1, Oper.upon_enter]
    refine Calls.mono h2 fun e w'' he => ?_
    cases e with
    | returned x => exact he
    | _ => exact he.elim

/-- The slots that are left, and what has come back. -/
theorem FrOK.ret (hf : FrOK C K S η w fr xs) {T : Nat → Prop} (hT : ∀ (i : Nat) (e : TypeId) (ys : List V) (x : Value) (g : Nat), fr[i]? = some (.own e ys) → xs[i]? = some x → x.ownBlock = some g → ¬ T g) {v : V} {x : Value} {K' : Kf} {η' : List Hist}
    (hK : K.le K') (hk : KIn T K K') (hη : Hle η η') (hc : Chg T w w') (hv : FrOK C K' S η' w' [v] [x]) (ht : ∀ n, Touch η' n → Touch η n ∨ T n) (ho : ∀ e ys g, v = .own e ys → x.ownBlock = some g → T g) : FrOK C K' S η' w' (v :: fr) (x :: xs) := by
  have h1 : FrOK C K' S η' w' fr xs := hf.step hK hη fun i e ys x g hi hx hg => by
    obtain ⟨h1, h2, h3⟩ := hf.ownBlk hi hx hg
    have hnt := hT i e ys x g hi hx hg
    exact ⟨hc.block g h1 hnt, fun ad c e1 e2 => (hk ad c e1).resolve_right (by rw [e2]; exact hnt), fun hh => (ht g hh).elim h3 hnt⟩
  have hr : Rel C K' η' v x := by cases hv.rel with | cons _ _ _ _ hh _ => exact hh
  by_cases hown : ∃ e ys, v = .own e ys
  · obtain ⟨e, ys, rfl⟩ := hown
    obtain ⟨k, cells, hok⟩ := hv.own 0 e ys x rfl rfl
    have hr' : Rel C K' [] (.row ys) x := by cases hr with | own _ _ _ h => exact h
    refine h1.consOwn hr' hok fun i e' ys' x' g hi hx hg hg' => ?_
    exact hT i e' ys' x' g hi hx hg' (ho e ys g rfl hg)
  · exact h1.cons hr fun e ys e1 => hown ⟨e, ys, e1⟩

/-- A call by value. -/
theorem exec_call {c : Call} {x : Operand} (ho : o.op = .call c) (hc : c.callee = .value x) {g : FuncId} {first captured : Array Value} (hx : a.eval x = .func (.func g) first captured) :
    execOp a.eval o = callFunc g (first ++ c.args.map a.eval ++ captured) := by
  simp only [execOp, ho, resolve, hc, hx, Deferred.ofValue]
  simp [invoke]

theorem RelL.toArr {vs : List V} {ys : Array Value} (h : RelL C K η vs ys.toList) : RelL C K η vs ys.toList := h

theorem callS_fr (hf : FrOK C K S η w fr xs) {args : List V} {ys : List Value} {i : Nat} {e : TypeId} {zs : List V} {x : Value} {g : Nat} (hi : fr[i]? = some (.own e zs)) (hx : xs[i]? = some x) (hg : x.ownBlock = some g) : ¬ CallS false η args ys w g := by
  obtain ⟨h1, h2, h3⟩ := hf.ownBlk hi hx hg
  rintro (h | ⟨h, _⟩ | ⟨_, h⟩)
  · omega
  · cases h
  · exact h3 h

theorem CallS.sub {kp : Bool} {args : List V} {ys : List Value} (hi : Inv C K S η σ w) (hF : Fresh S w) (hf : kp = true → FrOK C K S η w args ys) : ∀ n, CallS kp η args ys w n → S n := by
  rintro n (h | ⟨hk, i, e, zs, x, h1, h2, h3⟩ | ⟨_, h⟩)
  · exact hF n h
  · exact ((hf hk).ownBlk h1 h2 h3).2.1
  · exact (hi.tlt n h).2

theorem ok_call (hE : CallOK C E) (hG : GlobOK C K) (hi : Inv C K S η σ w) (hf : FrOK C K S η w fr a.tmps.toList) (hF : Fresh S w) (c : Call) (ho : o.op = .call c) (x : Operand) (hc : c.callee = .value x) {g : FuncId} {first captured : List V} (hx : evalV C fr x = .func (.func g) first captured) (hk : C.keep g = false)
    {v : V} {σ' : Mem} (h : E.call g (first ++ evalL C fr c.args.toList ++ captured) σ = some (v, σ')) {m : Prop} (hm : m → lowL 0 (first ++ evalL C fr c.args.toList ++ captured) = true) : OpOK C S K η w a o v fr σ' m := by
  intro next Q hn
  have hr := evalV_rel hG hf.rel x
  rw [hx] at hr
  generalize hX : a.eval x = X at hr
  cases hr with
  | func _ _ _ fa ca h1 h2 =>
    have hargs : RelL C K η (first ++ evalL C fr c.args.toList ++ captured) (fa ++ c.args.map a.eval ++ ca).toList := by
      rw [Array.toList_append, Array.toList_append]
      exact (h1.append (evalL_arr hG hf.rel c.args)).append h2
    have hcall := hE g _ σ v σ' h K S η w _ hi hF hG hargs (fun e => by rw [hk] at e; cases e)
    rw [Array.toArray_toList] at hcall
    refine wp_calls (by rw [exec_call ho hc hX]) (hcall.mono fun y w' hret => ?_)
    rw [hk] at hret
    obtain ⟨K', η', r1, r2, r3, r4, r5, r6, r7, r8⟩ := hret
    have hsub := CallS.sub (kp := false) (args := first ++ evalL C fr c.args.toList ++ captured) (ys := (fa ++ c.args.map a.eval ++ ca).toList) hi hF (fun e => by cases e)
    refine hn K' η' w' y ⟨r1, r2.mono hsub, r3, r4.mono hsub, r5, hf.ret (fun i e ys x g h1 h2 h3 => callS_fr hf h1 h2 h3) r1 r2 r3 r4 r6 r7 r8⟩ fun hmm => ?_
    have hl := hm hmm
    refine r4.mono fun n hn => ?_
    rcases hn with h | ⟨h, _⟩ | ⟨h, _⟩
    · exact h
    · cases h
    · rw [hl] at h; cases h

theorem unL_rel {vs : List V} {ys : List Value} (h : RelL C K η vs ys) : RelL C K η (unL vs) ys := by
  induction vs generalizing ys with
  | nil => cases h; exact .nil
  | cons v r ih => cases h with | cons _ y _ s h t => exact .cons _ _ _ _ h.un (ih t)

theorem unL_ne : ∀ (vs : List V) (i : Nat) (e : TypeId) (ys : List V), (unL vs)[i]? ≠ some (.own e ys)
  | [], i, e, ys => by simp [unL]
  | v :: r, 0, e, ys => by simpa [unL] using V.un_ne v e ys
  | v :: r, i + 1, e, ys => by simpa [unL] using unL_ne r i e ys

theorem ok_callKeep (hE : CallOK C E) (hG : GlobOK C K) (hi : Inv C K S η σ w) (hf : FrOK C K S η w fr a.tmps.toList) (hF : Fresh S w) (c : Call) (ho : o.op = .call c) (x : Operand) (hc : c.callee = .value x) {g : FuncId} (hx : evalV C fr x = .func (.func g) [] []) (hk : C.keep g = true)
    {y : Operand} {r : List Operand} (ha : c.args.toList = y :: r) {v : V} {σ' : Mem} (h : E.call g (evalV C fr y :: unL (evalL C fr r)) σ = some (v, σ')) : OpOK C S K η w a o v (MI.unTmp fr y) σ' := by
  intro next Q hn
  have hr := evalV_rel hG hf.rel x
  rw [hx] at hr
  generalize hX : a.eval x = X at hr
  cases hr with
  | func _ _ _ fa ca h1 h2 =>
    have hfa : fa = #[] := by cases hfa : fa.toList with | nil => exact Array.toList_eq_nil_iff.1 hfa | cons q s => rw [hfa] at h1; cases h1
    have hca : ca = #[] := by cases hca : ca.toList with | nil => exact Array.toList_eq_nil_iff.1 hca | cons q s => rw [hca] at h2; cases h2
    subst hfa; subst hca
    have hh := hf.hand hG y
    have hrr := unL_rel (evalL_rel hG hf.rel r)
    have hargl : (c.args.map a.eval).toList = a.eval y :: r.map a.eval := by rw [Array.toList_map, ha]; rfl
    have hargs : RelL C K η (evalV C fr y :: unL (evalL C fr r)) (c.args.map a.eval).toList := by
      rw [hargl]
      exact .cons _ _ _ _ (evalV_rel hG hf.rel y) hrr
    have hfr : FrOK C K S η w (evalV C fr y :: unL (evalL C fr r)) (c.args.map a.eval).toList := by
      refine ⟨hargs, fun i e ys z hi' hz => ?_, fun i j e ys z e' ys' z' g' hij hi' hz hj' hz' hg' => ?_⟩
      · cases i with
        | zero =>
          rw [hargl] at hz
          exact hh.own 0 e ys z (by simpa using hi') (by simpa using hz)
        | succ i => exact absurd (by simpa using hi') (unL_ne _ i e ys)
      · cases i with
        | zero => cases j with
          | zero => exact absurd rfl hij
          | succ j => exact absurd (by simpa using hj') (unL_ne _ j e' ys')
        | succ i => exact absurd (by simpa using hi') (unL_ne _ i e ys)
    have hcall := hE g _ σ v σ' h K S η w _ hi hF hG hargs (fun _ => hfr)
    rw [Array.toArray_toList] at hcall
    refine wp_calls (g := g) (ys := c.args.map a.eval) (by rw [exec_call ho hc hX]; simp) (hcall.mono fun z w' hret => ?_)
    rw [hk] at hret
    obtain ⟨K', η', r1, r2, r3, r4, r5, r6, r7, r8⟩ := hret
    have hsub := CallS.sub (kp := true) (args := evalV C fr y :: unL (evalL C fr r)) (ys := (c.args.map a.eval).toList) hi hF (fun _ => hfr)
    refine hn K' η' w' z ⟨r1, r2.mono hsub, r3, r4.mono hsub, r5, hh.tail.ret (fun i e ys u g' h1 h2 h3 => ?_) r1 r2 r3 r4 r6 r7 r8⟩ False.elim
    obtain ⟨b1, b2, b3⟩ := hh.tail.ownBlk h1 h2 h3
    rintro (hq | ⟨_, j, e', zs, q, q1, q2, q3⟩ | ⟨_, hq⟩)
    · omega
    · cases j with
      | zero =>
        rw [hargl] at q2
        simp only [List.getElem?_cons_zero, Option.some.injEq] at q1 q2
        subst q2
        exact hh.apart 0 (i + 1) e' zs _ e ys u g' (by omega) (by simpa using q1) (by simp) (by simpa using h1) (by simpa using h2) q3 h3
      | succ j => exact absurd (by simpa using q1) (unL_ne _ j e' zs)
    · exact b3 hq

end
end MI

namespace MI
open Go

theorem Ask.run_bind {α β : Type} (E : Env) (f : α → Ask β) : ∀ x : Ask α, (x.bind f).run E = match x.run E with | some a => (f a).run E | none => none
  | .ret a => rfl
  | .fail => rfl
  | .cond b k => by simp only [Ask.bind, Ask.run]; exact Ask.run_bind E f (k b)
  | .chk b k => by
    simp only [Ask.bind, Ask.run]
    cases b
    · rfl
    · exact Ask.run_bind E f k
  | .elem xs i k => by
    simp only [Ask.bind, Ask.run]
    cases xs[i]? with
    | none => rfl
    | some v => exact Ask.run_bind E f (k v)
  | .call g args σ k => by
    simp only [Ask.bind, Ask.run]
    cases E.call g args σ with
    | none => rfl
    | some p => exact Ask.run_bind E f (k p.1 p.2)
  | .loop b fr σ k => by
    simp only [Ask.bind, Ask.run]
    cases E.loop b fr σ with
    | none => rfl
    | some p => exact Ask.run_bind E f (k p.1 p.2.1 p.2.2)

theorem bind_some {α β : Type} {E : Env} {f : α → Ask β} {x : Ask α} {y : β} (h : (x.bind f).run E = some y) : ∃ a, x.run E = some a ∧ (f a).run E = some y := by
  rw [Ask.run_bind] at h
  cases hx : x.run E with
  | none => rw [hx] at h; cases h
  | some a => rw [hx] at h; exact ⟨a, rfl, h⟩

section
variable {C : Cfg} {S : Nat → Prop} {K : Kf} {η : List Hist} {σ : Mem} {w w' : World} {fr : Fr} {xs : List Value} {a : Act} {o : Oper} {E : Env}

theorem gotA_some {x : Ask V} {v : V} {fr' : Fr} {σ' : Mem} (h : (gotA fr σ x).run E = some (v, fr', σ')) : x.run E = some v ∧ fr' = fr ∧ σ' = σ := by
  obtain ⟨u, h1, h2⟩ := bind_some h
  simp only [Ask.run, Option.some.injEq, Prod.mk.injEq] at h2
  obtain ⟨rfl, rfl, rfl⟩ := h2
  exact ⟨h1, rfl, rfl⟩

theorem got_some {x : Option V} {v : V} {fr' : Fr} {σ' : Mem} (h : (got fr σ x).run E = some (v, fr', σ')) : x = some v ∧ fr' = fr ∧ σ' = σ := by
  unfold got at h
  split at h
  · simp only [Ask.run, Option.some.injEq, Prod.mk.injEq] at h
    obtain ⟨rfl, rfl, rfl⟩ := h
    exact ⟨rfl, rfl, rfl⟩
  · cases h

theorem ret_some {v v' : V} {fr' fr'' : Fr} {σ' σ'' : Mem} (h : (Ask.ret (v, fr', σ') : Ask Got).run E = some (v', fr'', σ'')) : v' = v ∧ fr'' = fr' ∧ σ'' = σ' := by
  simp only [Ask.run, Option.some.injEq, Prod.mk.injEq] at h
  exact ⟨h.1.symm, h.2.1.symm, h.2.2.symm⟩

theorem Still.mono {v : V} {fr' : Fr} {T T' : World → Prop} (h : Still C S K η w a o v fr' T) (ht : ∀ w2, T' w2 → T w2) : Still C S K η w a o v fr' T' := by
  obtain ⟨x, h1, h2⟩ := h
  exact ⟨x, h1, fun w2 h => h2 w2 (ht w2 h)⟩

theorem Still.any {v : V} {fr' : Fr} {T : World → Prop} (h : Still C S K η w a o v fr' (fun _ => True)) : Still C S K η w a o v fr' T := h.mono fun _ _ => trivial

theorem und_ne_iface {t : TypeId} {d : TypeDesc} (hd : C.und t = some d) (hn : ∀ ms, C.und t ≠ some (.interface ms)) : ∀ ms, d ≠ .interface ms := fun ms e => hn ms (by rw [hd, e])

/-- What an operation that turns nothing leaves. -/
theorem opV_still (hS : Good C) (hG : GlobOK C K) (hi : Inv C K S η σ w) (hf : FrOK C K S η w fr a.tmps.toList) {f : FuncId} {ops : List Oper} (hk : kindO C o ≤ 1) {v : V} {fr' : Fr} {σ' : Mem} (h : (opV C f ops o fr σ).run E = some (v, fr', σ')) :
    σ' = σ ∧ Still C S K η w a o v fr' (fun w2 => kindO C o = 0 ∨ Grows w w2) := by
  cases ho : o.op with
  | move x =>
    simp only [opV, ho] at h
    split at h
    · split at h
      · obtain ⟨rfl, rfl, rfl⟩ := ret_some h; exact ⟨rfl, (ok_take hG hf x ho).any⟩
      · obtain ⟨rfl, rfl, rfl⟩ := ret_some h; exact ⟨rfl, (ok_move hG hf x ho).any⟩
    · obtain ⟨rfl, rfl, rfl⟩ := ret_some h; exact ⟨rfl, (ok_move hG hf x ho).any⟩
  | assign x =>
    simp only [opV, ho] at h
    split at h
    · obtain ⟨rfl, rfl, rfl⟩ := ret_some h
      exact ⟨rfl, (ok_assignRaw hG hf x ho).any⟩
    · obtain ⟨rfl, rfl, rfl⟩ := ret_some h
      exact ⟨rfl, (ok_assign hG hf x ho).any⟩
  | pick c x y =>
    simp only [opV, ho] at h
    split at h
    · rename_i t hc
      simp only [Ask.run] at h
      have hp := ok_pick hG hf c x y ho t hc
      cases t
      · obtain ⟨rfl, rfl, rfl⟩ := ret_some h; exact ⟨rfl, hp.any⟩
      · obtain ⟨rfl, rfl, rfl⟩ := ret_some h; exact ⟨rfl, hp.any⟩
    · cases h
  | load t x =>
    simp only [opV, ho] at h
    obtain ⟨h1, rfl, rfl⟩ := got_some h
    exact ⟨rfl, (ok_load hS hG hi hf t x ho h1).mono fun w2 hw => hw.resolve_left (by simp [kindO, ho])⟩
  | nilCheck x =>
    simp only [opV, ho] at h
    split at h
    · rename_i l g p hx; obtain ⟨rfl, rfl, rfl⟩ := ret_some h; exact ⟨rfl, (ok_nilCheck hG hf x ho _ hx (.inl ⟨_, _, _, rfl⟩)).any⟩
    · rename_i y p hx; obtain ⟨rfl, rfl, rfl⟩ := ret_some h; exact ⟨rfl, (ok_nilCheck hG hf x ho _ hx (.inr (.inl ⟨_, _, rfl⟩))).any⟩
    · rename_i g b c hx; obtain ⟨rfl, rfl, rfl⟩ := ret_some h; exact ⟨rfl, (ok_nilCheck hG hf x ho _ hx (.inr (.inr ⟨_, _, _, rfl⟩))).any⟩
    · cases h
  | binOp op t x y yt =>
    simp only [opV, ho] at h
    obtain ⟨h1, rfl, rfl⟩ := gotA_some h
    exact ⟨rfl, (ok_binOp hS hG hf op t yt x y ho h1).any⟩
  | unOp op t x =>
    simp only [opV, ho] at h
    obtain ⟨h1, rfl, rfl⟩ := gotA_some h
    exact ⟨rfl, (ok_unOp hG hf op t x ho h1).any⟩
  | convert s d x =>
    simp only [kindO, ho] at hk
    have hd : C.und d = some .string ∧ s ≠ d := by
      split at hk
      · omega
      · rename_i hne
        split at hk
        · rename_i hd; exact ⟨hd, hne⟩
        · omega
    have hkind : kindO C o = 1 := by simp [kindO, ho, hd.1, hd.2]
    simp only [opV, ho] at h
    have key : ∀ z, (evalV C fr x).un = z → ((convV C f s d z σ).bind fun p => .ret (p.1, fr, p.2) : Ask Got).run E = some (v, fr', σ') → σ' = σ ∧ Still C S K η w a o v fr' (fun w2 => kindO C o = 0 ∨ Grows w w2) := fun z hz hh => by
      subst hz
      obtain ⟨p, h1, h2⟩ := bind_some hh
      obtain ⟨rfl, rfl, rfl⟩ := ret_some h2
      obtain ⟨h3, h4⟩ := ok_convStr (v := p.1) (σ' := p.2) hS hG hi hf ho hd.1 h1
      exact ⟨h4, h3.mono fun w2 hw => hw.resolve_left (by omega)⟩
    split at h
    · rename_i e l g len e' _ hx
      rw [if_neg hd.2] at h
      exact key _ hx h
    · exact key _ rfl h
  | makeInterface t x =>
    simp only [opV, ho] at h
    split at h
    · cases h
    · rename_i d hn hd
      obtain ⟨rfl, rfl, rfl⟩ := ret_some h
      exact ⟨rfl, (ok_makeInterface hS hG hf t x ho hd (fun ms e => hn ms e)).any⟩
    · cases h
  | makeFunc g p q =>
    simp only [opV, ho] at h
    obtain ⟨rfl, rfl, rfl⟩ := ret_some h
    exact ⟨rfl, (ok_makeFunc hG hf g p q ho).any⟩
  | slice t x lo hi' mx =>
    simp only [opV, ho] at h
    split at h
    · obtain ⟨h1, rfl, rfl⟩ := gotA_some h
      exact ⟨rfl, (ok_slice hS hG hi hf t x lo hi' ho h1).any⟩
    · cases h
  | fieldAddr s x i =>
    simp only [opV, ho] at h
    split at h
    · rename_i off t hfa
      split at h
      · rename_i n hn
        obtain ⟨k1, k2⟩ := ok_fieldAddr hS hG hf s x i ho hfa hn
        split at h
        · rename_i l g p hx; obtain ⟨rfl, rfl, rfl⟩ := ret_some h; exact ⟨rfl, (k1 _ _ _ hx).any⟩
        · rename_i y p hx; obtain ⟨rfl, rfl, rfl⟩ := ret_some h; exact ⟨rfl, (k2 _ _ hx).any⟩
        · cases h
      · cases h
    · cases h
  | field s x i =>
    simp only [opV, ho] at h
    split at h
    · rename_i off t hfa
      split at h
      · rename_i cs hx
        split at h
        · rename_i u hp
          obtain ⟨rfl, rfl, rfl⟩ := ret_some h
          exact ⟨rfl, (ok_field hS hG hf s x i ho hfa hx hp).any⟩
        · cases h
      · cases h
    · cases h
  | indexAddr t x i =>
    simp only [opV, ho] at h
    obtain ⟨h1, rfl, rfl⟩ := gotA_some h
    exact ⟨rfl, (ok_indexAddr hS hG hf t x i ho h1).any⟩
  | index t x i =>
    simp only [opV, ho] at h
    obtain ⟨h1, rfl, rfl⟩ := gotA_some h
    exact ⟨rfl, (ok_index hS hG hf t x i ho h1).any⟩
  | extract x i =>
    simp only [opV, ho] at h
    split at h
    · rename_i vs hx
      split at h
      · rename_i u hu
        obtain ⟨rfl, rfl, rfl⟩ := ret_some h
        exact ⟨rfl, (ok_extract hG hf x i ho hx hu).any⟩
      · cases h
    · cases h
  | typeAssert x xt t ok =>
    simp only [opV, ho] at h
    split at h
    · cases h
    · rename_i t' u d hni hx hn
      split at h
      · rename_i htt
        subst htt
        obtain ⟨rfl, rfl, rfl⟩ := ret_some h
        exact ⟨rfl, (ok_assert_holds hS hG hf x xt t' ok ho hx hn hni).any⟩
      · rename_i htt
        split at h
        · rename_i hok
          subst hok
          split at h
          · rename_i z hz
            obtain ⟨rfl, rfl, rfl⟩ := ret_some h
            exact ⟨rfl, (ok_assert_fails hS hG hf x xt t ho hn (.inr ⟨t', u, hx, htt, hni⟩) hz).any⟩
          · cases h
        · cases h
    · rename_i d hx hn
      split at h
      · rename_i hok
        subst hok
        split at h
        · rename_i z hz
          obtain ⟨rfl, rfl, rfl⟩ := ret_some h
          exact ⟨rfl, (ok_assert_fails hS hG hf x xt t ho hn (.inl hx) hz).any⟩
        · cases h
      · cases h
    · cases h
  | build t parts =>
    simp only [opV, ho] at h
    split at h
    · rename_i z fs hz hu
      split at h
      · rename_i ps hps
        split at h
        · rename_i cs hl
          obtain ⟨rfl, rfl, rfl⟩ := ret_some h
          exact ⟨rfl, (ok_buildStruct hS hG hf t parts ho hz hu hps hl).any⟩
        · cases h
      · cases h
    · rename_i z n e hz hu
      split at h
      · rename_i k hk'
        split at h
        · rename_i cs hl
          obtain ⟨rfl, rfl, rfl⟩ := ret_some h
          exact ⟨rfl, (ok_buildArray hS hG hf t parts ho hz hu hk' hl).any⟩
        · cases h
      · cases h
    · cases h
  | call c =>
    cases hc : c.callee with
    | builtin b =>
      cases b with
      | len =>
        simp only [opV, ho, hc] at h
        split at h
        · rename_i x t ha ht
          split at h
          · rename_i n hn
            obtain ⟨rfl, rfl, rfl⟩ := ret_some h
            exact ⟨rfl, (ok_len hS hG hf c ho hc x t ha ht hn).any⟩
          · cases h
        · cases h
      | min =>
        simp only [opV, ho, hc] at h
        split at h
        · rename_i k p k' q ha
          obtain ⟨rfl, rfl, rfl⟩ := ret_some h
          exact ⟨rfl, ((ok_minmax hG hf c ho ha).1 hc).any⟩
        · cases h
      | max =>
        simp only [opV, ho, hc] at h
        split at h
        · rename_i k p k' q ha
          obtain ⟨rfl, rfl, rfl⟩ := ret_some h
          exact ⟨rfl, ((ok_minmax hG hf c ho ha).2 hc).any⟩
        · cases h
      | unsafeSliceData =>
        simp only [opV, ho, hc] at h
        split at h
        · rename_i x ha
          obtain ⟨k1, k2⟩ := ok_sliceData hG hf c ho hc x ha
          split at h
          · rename_i hx; obtain ⟨rfl, rfl, rfl⟩ := ret_some h; exact ⟨rfl, (k1 hx).any⟩
          · rename_i l g n e hx
            split at h
            · obtain ⟨rfl, rfl, rfl⟩ := ret_some h; exact ⟨rfl, (k2 _ _ _ _ hx).any⟩
            · cases h
          · cases h
        · cases h
      | _ => simp [kindO, ho, hc] at hk
    | value x =>
      cases x with
      | func g =>
        simp only [kindO, ho, hc] at hk
        split at hk
        · omega
        · split at hk <;> omega
      | _ => simp [kindO, ho, hc] at hk
    | invoke r m => simp [kindO, ho, hc] at hk
  | _ => simp [kindO, ho] at hk

end
end MI

namespace MI
open Go

section
variable {C : Cfg} {S : Nat → Prop} {K : Kf} {η : List Hist} {σ : Mem} {w w' : World} {fr : Fr} {xs : List Value} {a : Act} {o : Oper} {E : Env}

theorem OpOK.weak {v : V} {fr' : Fr} {σ' : Mem} {m m' : Prop} (h : OpOK C S K η w a o v fr' σ' m) (hm : m' → m) : OpOK C S K η w a o v fr' σ' m' :=
  fun next Q hn => h next Q fun K' η' w' x ht hg => hn K' η' w' x ht fun e => hg (hm e)

theorem opV_ok (hS : Good C) (hE : CallOK C E) (hG : GlobOK C K) (hi : Inv C K S η σ w) (hf : FrOK C K S η w fr a.tmps.toList) (hF : Fresh S w) {f : FuncId} {ops : List Oper} {v : V} {fr' : Fr} {σ' : Mem} (h : (opV C f ops o fr σ).run E = some (v, fr', σ')) :
    OpOK C S K η w a o v fr' σ' (kindO C o = 2 ∧ lowArgs C fr o = true) := by
  by_cases hk : kindO C o ≤ 1
  · obtain ⟨rfl, h2⟩ := opV_still hS hG hi hf hk h
    exact h2.ok hi (.inr (Grows.refl w))
  cases ho : o.op with
  | alloc e =>
    simp only [opV, ho] at h
    split at h
    · rename_i z hz
      obtain ⟨rfl, rfl, rfl⟩ := ret_some (E := E) h
      exact (ok_alloc hS hi hf hF e ho hz).weak fun _ => trivial
    · cases h
  | box e x =>
    simp only [opV, ho] at h
    split at h
    · split at h
      · rename_i hc
        rw [Bool.and_eq_true] at hc
        obtain ⟨rfl, rfl, rfl⟩ := ret_some (E := E) h
        exact (ok_boxImm hG hi hf hF e x ho hc.1 hc.2).weak fun _ => trivial
      · cases h
    · split at h
      · rename_i hc
        obtain ⟨rfl, rfl, rfl⟩ := ret_some (E := E) h
        exact (ok_box hG hi hf hF e x ho hc).weak fun _ => trivial
      · cases h
  | buildSlice t len parts =>
    simp only [opV, ho] at h
    split at h
    · cases h
    · rename_i e he
      split at h
      · rename_i z agg k hz hagg hks
        split at h
        · rename_i hc
          obtain ⟨c1, c2, c3, c4⟩ := hc
          split at h
          · rename_i cs hl
            split at h
            · obtain ⟨rfl, rfl, rfl⟩ := ret_some (E := E) h
              exact (ok_buildSliceMut hS hG hi hf hF ho he hz hks c1 c2 c3 hl).weak fun _ => trivial
            split at h
            · rename_i hlow
              obtain ⟨rfl, rfl, rfl⟩ := ret_some (E := E) h
              exact (ok_buildSliceOwn hS hG hi hf hF ho he hz hks c1 c2 c3 c4 hl hlow).weak fun _ => trivial
            · split at h
              · cases h
              · rename_i hl0
                obtain ⟨rfl, rfl, rfl⟩ := ret_some (E := E) h
                exact (ok_buildSliceMsl hS hG hi hf hF ho he hz hks c1 c2 c3 hl hl0).weak fun _ => trivial
          · cases h
        · cases h
      · cases h
  | store t p x =>
    simp only [opV, ho] at h
    split at h
    · rename_i σ'' hst
      obtain ⟨rfl, rfl, rfl⟩ := ret_some (E := E) h
      exact (ok_store hS hG hi hf t p x ho hst).weak fun e => by simp [kindO, ho] at e
    · cases h
  | convert s d x =>
    simp only [opV, ho] at h
    have key : ∀ z, (evalV C fr x).un = z → ((convV C f s d z σ).bind fun p => .ret (p.1, fr, p.2) : Ask Got).run E = some (v, fr', σ') → OpOK C S K η w a o v fr' σ' (kindO C o = 2 ∧ lowArgs C fr o = true) := fun z hz hh => by
      subst hz
      obtain ⟨p, h1, h2⟩ := bind_some hh
      obtain ⟨rfl, rfl, rfl⟩ := ret_some (E := E) h2
      exact (ok_convert hS hG hi hf hF ho h1).weak fun _ => trivial
    split at h
    · rename_i e l g len e' he hx
      split at h
      · rename_i hsd
        subst hsd
        split at h
        · rename_i b hb
          split at h
          · rename_i hc
            simp only [Bool.and_eq_true, Bool.not_eq_true'] at hc
            obtain ⟨rfl, rfl, rfl⟩ := ret_some (E := E) h
            exact (ok_convSame hS hG hi hf ho (elemT_und he) hc.1 hx hb hc.2).weak fun e => by simp [kindO, ho] at e
          · cases h
        · cases h
      · exact key _ hx h
    · exact key _ rfl h
  | makeSlice t l c =>
    simp only [opV, ho] at h
    split at h
    · rename_i ln cn e hl hc he
      split at h
      · rename_i z k hz hks
        split at h
        · rename_i hcond
          simp only [Ask.run] at h
          split at h
          · rename_i hb
            simp only [decide_eq_true_eq] at hb
            obtain ⟨k1, k2⟩ := ok_makeSlice hS hG hi hf hF ho hl hc he hz hks hcond.1 hcond.2 hb
            by_cases hz0 : ln = 0
            · simp only [hz0, decide_true] at h
              obtain ⟨rfl, rfl, rfl⟩ := ret_some (E := E) h
              exact (k1 hz0).weak fun _ => trivial
            · simp only [hz0, decide_false] at h
              obtain ⟨rfl, rfl, rfl⟩ := ret_some (E := E) h
              exact (k2 hz0).weak fun _ => trivial
          · cases h
        · cases h
      · cases h
    · cases h
  | call c =>
    cases hc : c.callee with
    | builtin b =>
      have hno : ¬ kindO C o = 2 := by simp only [kindO, ho, hc]; cases b <;> simp
      cases b with
      | append =>
        simp only [opV, ho, hc] at h
        split at h
        · rename_i x y t t' ha ht
          split at h
          · cases h
          · rename_i d hn hd
            obtain ⟨p, h1, h2⟩ := bind_some h
            obtain ⟨rfl, rfl, rfl⟩ := ret_some (E := E) h2
            exact (ok_append (v := p.1) (σ' := p.2) hS hG hi hf hF c ho hc x y t t' ha ht hd (fun k e => hn k e) h1).weak fun e => hno e.1
          · cases h
        · cases h
      | unsafeString =>
        simp only [opV, ho, hc] at h
        split at h
        · rename_i x y ha
          split at h
          · rename_i n hx hy
            split at h
            · rename_i t1 t2 ht
              simp only [Ask.run] at h
              split at h
              · rename_i hn
                simp only [beq_iff_eq] at hn
                subst hn
                obtain ⟨rfl, rfl, rfl⟩ := ret_some (E := E) h
                exact (ok_unsafeNil hG hi hf c ho hc x y ha ht hx hy).weak fun e => hno e.1
              · cases h
            · cases h
          · rename_i l g n hx hy
            split at h
            · rename_i b pt it hb ht
              split at h
              · rename_i e hpt
                split at h
                · rename_i hcond
                  simp only [Bool.and_eq_true, decide_eq_true_eq] at hcond
                  obtain ⟨⟨⟨⟨⟨c1, c2⟩, c3⟩, c4⟩, c5⟩, c6⟩ := hcond
                  subst c1
                  split at h
                  · rename_i s hs
                    simp only [Ask.run] at h
                    split at h
                    · rename_i hn
                      simp only [beq_iff_eq] at hn
                      subst hn
                      obtain ⟨rfl, rfl, rfl⟩ := ret_some (E := E) h
                      exact (ok_unsafeString hS hG hi hf c ho hc x y ha ht hx hb hy hpt c2 c4 c5 c6 hs).weak fun e => hno e.1
                    · cases h
                  · cases h
                · cases h
              · cases h
            · cases h
          · cases h
        · cases h
      | len => exact absurd (by simp [kindO, ho, hc]) hk
      | min => exact absurd (by simp [kindO, ho, hc]) hk
      | max => exact absurd (by simp [kindO, ho, hc]) hk
      | unsafeSliceData => exact absurd (by simp [kindO, ho, hc]) hk
      | _ => simp only [opV, ho, hc] at h; cases h
    | value x =>
      simp only [opV, ho, hc] at h
      split at h
      · rename_i g first captured hx
        split at h
        · rename_i hkp
          split at h
          · rename_i y r ha
            simp only [Ask.run] at h
            split at h
            · rename_i v1 σ1 hcall
              obtain ⟨rfl, rfl, rfl⟩ := ret_some (E := E) h
              refine (ok_callKeep hE hG hi hf hF c ho x hc hx hkp ha hcall).weak fun e => ?_
              cases x with
              | func g' =>
                simp only [evalV] at hx
                cases hx
                simp [kindO, ho, hc, hkp] at e
              | _ => simp [kindO, ho, hc] at e
            · cases h
          · cases h
        · rename_i hkp
          simp only [Ask.run] at h
          split at h
          · rename_i v1 σ1 hcall
            obtain ⟨rfl, rfl, rfl⟩ := ret_some (E := E) h
            refine ok_call hE hG hi hf hF c ho x hc hx hkp hcall fun e => ?_
            cases x with
            | func g' =>
              simp only [evalV] at hx
              cases hx
              have := e.2
              simp only [lowArgs, ho, hc] at this
              simpa using this
            | _ => simp [kindO, ho, hc] at e
          · cases h
      · cases h
    | invoke r m => simp only [opV, ho, hc] at h; cases h
  | move _ => exact absurd (by simp [kindO, ho]) hk
  | assign _ => exact absurd (by simp [kindO, ho]) hk
  | pick _ _ _ => exact absurd (by simp [kindO, ho]) hk
  | load _ _ => exact absurd (by simp [kindO, ho]) hk
  | nilCheck _ => exact absurd (by simp [kindO, ho]) hk
  | binOp _ _ _ _ _ => exact absurd (by simp [kindO, ho]) hk
  | unOp _ _ _ => exact absurd (by simp [kindO, ho]) hk
  | makeInterface _ _ => exact absurd (by simp [kindO, ho]) hk
  | makeFunc _ _ _ => exact absurd (by simp [kindO, ho]) hk
  | slice _ _ _ _ _ => exact absurd (by simp [kindO, ho]) hk
  | fieldAddr _ _ _ => exact absurd (by simp [kindO, ho]) hk
  | field _ _ _ => exact absurd (by simp [kindO, ho]) hk
  | indexAddr _ _ _ => exact absurd (by simp [kindO, ho]) hk
  | index _ _ _ => exact absurd (by simp [kindO, ho]) hk
  | extract _ _ => exact absurd (by simp [kindO, ho]) hk
  | typeAssert _ _ _ _ => exact absurd (by simp [kindO, ho]) hk
  | build _ _ => exact absurd (by simp [kindO, ho]) hk
  | _ => simp only [opV, ho] at h; cases h

end
end MI

