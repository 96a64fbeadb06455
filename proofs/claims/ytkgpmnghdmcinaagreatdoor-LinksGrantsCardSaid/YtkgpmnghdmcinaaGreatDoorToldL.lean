/-
  A part of the proof that the law answers true for every input: ToldL. Conditions: those of each theorem.
-/
import Derived.Test.YtkgpmnghdmcinaaGreatDoorCfgL
import Derived.Test.YtkgpmnghdmcinaaGreatDoorCoreC
import Derived.Test.YtkgpmnghdmcinaaGreatDoorJPlain
set_option linter.all false
set_option autoImplicit true
namespace MI.Tryz
open Go Go.Proofs MI
set_option maxRecDepth 100000

theorem findB_eq (c : UInt8) : ∀ (s : List UInt8) (n : Nat), findB (c.toNat : Int) n s = if Lib.indexByte s c == -1 then -1 else Lib.indexByte s c + n
  | [], n => by simp [findB, Lib.indexByte]
  | b :: r, n => by
    have ih := findB_eq c r (n + 1)
    have hge := Lib.indexByte_ge r c
    by_cases hb : b = c
    · subst hb
      simp [findB, Lib.indexByte]
    · have h1 : ((b.toNat : Int) == (c.toNat : Int)) = false := by
        rw [beq_eq_false_iff_ne]
        intro e
        exact hb (UInt8.toNat.inj (Int.ofNat.inj e))
      have e1 : findB (c.toNat : Int) n (b :: r) = findB (c.toNat : Int) (n + 1) r := by simp only [findB, h1]
      have e2 : Lib.indexByte (b :: r) c = if Lib.indexByte r c == -1 then -1 else Lib.indexByte r c + 1 := by simp [Lib.indexByte, hb]
      rw [e1, e2, ih]
      by_cases h3 : Lib.indexByte r c = -1
      · simp [h3]
      · have h4 : (Lib.indexByte r c == -1) = false := by rw [beq_eq_false_iff_ne]; exact h3
        have h5 : (Lib.indexByte r c + 1 == -1) = false := by rw [beq_eq_false_iff_ne]; omega
        simp [h4, h5]
        omega

theorem findB_zero (c : UInt8) (s : List UInt8) : findB (c.toNat : Int) 0 s = Lib.indexByte s c := by
  rw [findB_eq]
  by_cases h : Lib.indexByte s c = -1
  · simp [h]
  · have : (Lib.indexByte s c == -1) = false := by rw [beq_eq_false_iff_ne]; exact h
    simp [this]

theorem join_eq (sep : List UInt8) : ∀ (bs : List ByteArray), joinB sep (bs.map fun b => V.str b.data.toList) = Lib.join (bs.map (·.data.toList)) sep
  | [] => rfl
  | [b] => by simp [joinB, strOf, Lib.join_one]
  | b :: c :: r => by
    have ih := join_eq sep (c :: r)
    simp only [List.map_cons] at ih
    simp only [List.map_cons, joinB, strOf, ih, Lib.join_cons, Lib.joinTail, List.map_cons, List.flatten_cons]
    simp [List.append_assoc]

theorem allStr_mem : ∀ {xs : List V}, allStr xs = true → ∀ y ∈ xs, ∃ s, y = .str s
  | [], _, y, hy => by simp at hy
  | x :: r, h, y, hy => by
    cases x with
    | str s =>
      rcases List.mem_cons.1 hy with rfl | hy
      · exact ⟨s, rfl⟩
      · exact allStr_mem (xs := r) (by simpa [allStr] using h) y hy
    | _ => simp [allStr] at h

theorem flat_strs : ∀ (ys : List V), (∀ y ∈ ys, ∃ s, y = .str s) → flatV ys = ys
  | [], _ => rfl
  | y :: r, h => by
    obtain ⟨s, rfl⟩ := h y (by simp)
    simp only [flatV, V.cells, flat_strs r fun z hz => h z (by simp [hz])]
    rfl

section
variable {S : Nat → Prop} {K : Kf} {η : List Hist} {σ : Mem} {w : World} {xs : List Value}

theorem told_indexByte {args : List V} {r : V} (h : extIndexByte args = some r) (hi : Inv cfg K S η σ w) (hr : RelL cfg K η args xs) : CallsTo cfg 144 xs.toArray w (Ret cfg S K η w (fun n => w.heap.size ≤ n) r σ) := by
  unfold extIndexByte at h
  split at h
  · rename_i s c
    split at h
    · rename_i hc
      have hc := of_decide_eq_true hc
      cases h
      cases hr with
      | cons _ x0 _ _ h0 hr =>
        cases hr with
        | cons _ x1 _ _ h1 hr =>
          cases hr
          obtain ⟨b, rfl, rfl⟩ := rel_str h0
          rw [rel_int h1]
          refine calls_extern hi (x := .int .i64 (Lib.indexByte b.data.toList c.toNat.toUInt8)) ?_ (by simp) ?_
          · have e : c = ((c.toNat.toUInt8).toNat : Int) := by
              have : c.toNat < 256 := by omega
              simp [Nat.mod_eq_of_lt this]
              omega
            have : findB c 0 b.data.toList = Lib.indexByte b.data.toList c.toNat.toUInt8 := by
              rw [← findB_zero, ← e]
            rw [this]
            exact .int _ _
          · have := run_callFunc_extern (P := cfg.P) Tryz.func144 (by kernel_rfl) (by kernel_rfl) (by kernel_rfl) (e := Extern.BytealgIndexByte.indexByte) (by kernel_rfl) #[.string b, .int .u8 c] w
            rw [Lib.run_indexByteString] at this
            exact this
    · cases h
  · cases h

theorem told_join {args : List V} {r : V} (h : extJoin args = some r) (hi : Inv cfg K S η σ w) (hr : RelL cfg K η args xs) : CallsTo cfg 32 xs.toArray w (Ret cfg S K η w (fun n => w.heap.size ≤ n) r σ) := by
  unfold extJoin at h
  split at h
  · rename_i ys sep
    split at h
    · rename_i hc
      simp only [Bool.and_eq_true] at hc
      obtain ⟨hs, hn, hm⟩ := hc
      have hn := Nat.le_of_ble_eq_true hn
      have hm := Nat.le_of_ble_eq_true hm
      cases h
      cases hr with
      | cons _ x0 _ _ h0 hr =>
        cases hr with
        | cons _ x1 _ _ h1 hr =>
          cases hr
          obtain ⟨b, rfl, rfl⟩ := rel_str h1
          have none : ∀ (a : Option Addr) (cap : Nat), ys = [] → x0 = .slice a 0 cap → CallsTo cfg 32 [x0, .string b].toArray w (Ret cfg S K η w (fun n => w.heap.size ≤ n) (.str (joinB b.data.toList ys)) σ) := fun a cap hy hx => by
            subst hy; subst hx
            refine calls_body (C := cfg) Tryz.func32 (by kernel_rfl) (by kernel_rfl) hi (x := .string ⟨#[]⟩) (.str ⟨#[]⟩) (by simp) ?_
            exact (Tryz.strings_Join_none a cap b w).mono fun e w' he => ⟨he.1, he.2 ▸ RowKit.Below.refl _ _⟩
          cases h0 with
          | rowNil a cap => exact none a cap rfl rfl
          | row _ bk o cap k cvs g0 g1 g2 g3 g4 =>
            by_cases hy : ys = []
            · exact none (some ⟨bk, o, Option.none⟩) cap hy (by rw [hy]; rfl)
            · have hcell : flatV ys = ys := flat_strs ys (allStr_mem hs)
              rw [hcell] at g4
              obtain ⟨bs, rfl, rfl⟩ := strs_of g4 (allStr_mem hs)
              have hcells : ∀ (j : Nat) x, bs[j]? = some x → w.cell? ⟨bk, o + j, Option.none⟩ = some (.string x) := fun j x hj => hi.kf _ _ (g3 j _ (by rw [List.getElem?_map, hj]; rfl))
              have hbk : bk < w.heap.size := by
                cases bs with
                | nil => exact absurd rfl hy
                | cons x r => exact World.block_lt_of_cell? w ⟨bk, o + 0, Option.none⟩ (hcells 0 x rfl)
              rw [join_eq] at hm ⊢
              simp only [List.length_map] at hn g0
              refine calls_body (C := cfg) Tryz.func32 (by kernel_rfl) (by kernel_rfl) hi (x := .string ⟨(Lib.join (bs.map (·.data.toList)) b.data.toList).toArray⟩) ?_ (by simp) ?_
              · have := Rel.str (C := cfg) (K := K) (η := η) ⟨(Lib.join (bs.map (·.data.toList)) b.data.toList).toArray⟩
                rwa [size_list] at this
              · have := Tryz.strings_Join bk o cap bs b w hcells hbk hn g0 hm
                rw [List.length_map]
                exact this
    · cases h
  · cases h

theorem told_check {args : List V} {v : V} {σ' : Mem} (h : extCheck args σ = some (v, σ')) (hi : Inv cfg K S η σ w) (hr : RelL cfg K η args xs) : CallsTo cfg 78 xs.toArray w (Ret cfg S K η w (CallS (cfg.keep 78) η args xs w) v σ') := by
  unfold extCheck at h
  split at h
  · rename_i l g
    split at h
    · rename_i b hb
      split at h
      · rename_i hfz hgr hty
        have hty : b.ty = 90 := Nat.eq_of_beq_eq_true hty
        obtain ⟨q1, q2, q3⟩ := getBlk_some hb
        obtain ⟨hist, n, room, he, hg, hok⟩ := hi.blk l b q1
        rw [q2] at hg
        have hT : CallS (cfg.keep 78) η [.ptr l g 0] xs w n := .inr (.inr ⟨rfl, l, hist, g, room, he, hg⟩)
        cases hr with
        | cons _ x0 _ _ h0 hr =>
          cases hr
          cases h0 with
          | ptr _ _ _ n' room' hist' e1 e2 =>
            rw [he] at e1; cases e1
            rw [hg] at e2; cases e2
            obtain ⟨cur, fz, e1, e2⟩ := hok.exact hgr (by rw [hty]; kernel_rfl)
            obtain ⟨cur', fz', f1, f2, f3, f4, f5⟩ := hok.heap
            rw [e1] at f1; cases f1
            rw [hty] at e1
            have hsz : ∀ {c0 x}, b.cells = [c0, x] → cur.size = 2 := fun hc => by rw [e2, hc]; rfl
            have X72 : Builder.X72 Tryz.prog Tryz.lays156_ren := Tryz.Builder_Extra_156.toX72
            have L : Lays.n240 Tryz.prog Tryz.lays156_ren := { Tryz.lays156 with }
            split at h
            · rename_i x hc
              cases h
              have hs2 := hsz hc
              rw [hc] at f3
              have hc0 : cur[0]? = some (.pointer none) := by
                cases f3' : cur.toList.take 2 with
                | nil => simp only [List.length_cons, List.length_nil, f3'] at f3; cases f3
                | cons y0 r =>
                  simp only [List.length_cons, List.length_nil, f3'] at f3
                  cases f3 with
                  | cons _ _ _ _ ha _ =>
                    cases ha
                    have : (cur.toList.take 2)[0]? = some (.pointer none) := by rw [f3']; rfl
                    rw [List.getElem?_take] at this
                    simpa using this
              have hw := Any.Builder_copyCheck_fresh L X72 n w (by simp [World.cell?, e1, hc0]) (by simp [World.shape?, e1, hs2]; rfl) (by simp only [World.frozen?, e1]; exact (f4 hfz).clear 0 (by rw [hc]; simp))
              have hcall : Calls cfg.P 78 #[.pointer (some ⟨n, 0, none⟩)] w fun e w' => e = .returned (.tuple #[]) ∧ w' = w.setCell ⟨n, 0, none⟩ (.pointer (some ⟨n, 0, none⟩)) := hw
              refine .inr ⟨enter_any (C := cfg) Tryz.func78 (by kernel_rfl) (by kernel_rfl) _, Calls.mono hcall fun e w' hq => ?_⟩
              obtain ⟨rfl, rfl⟩ := hq
              obtain ⟨cur2, g1, g2⟩ := heap_setCells n 90 fz [.pointer (some ⟨n, 0, none⟩)] 0 w cur e1
              change (w.setCell ⟨n, 0, none⟩ (.pointer (some ⟨n, 0, none⟩))).heap[n]? = _ at g1
              have hchg : Chg (fun k => k = n) w (w.setCell ⟨n, 0, none⟩ (.pointer (some ⟨n, 0, none⟩))) := chg_setCells n [.pointer (some ⟨n, 0, none⟩)] 0 w
              have hnt := hi.tlt n ⟨l, hist, g, room, he, hg⟩
              have hset : η.set l hist = η := by
                apply List.ext_getElem?
                intro i
                rw [List.getElem?_set]
                split
                · rename_i hii; subst hii
                  split
                  · exact he.symm
                  · rename_i hlt; rw [List.getElem?_eq_none (by omega)]
                · rfl
              have hf0 : FrOK cfg K S η w [] [] := FrOK.nil
              have hcur2 : cur2.size = 2 := by rw [← Array.length_toList, g2, length_setRange, Array.length_toList, hs2]
              have hto : To cfg S K η w K (η.set l hist) (σ.set l { b with cells := [.ptr l g 0, x] }) (w.setCell ⟨n, 0, none⟩ (.pointer (some ⟨n, 0, none⟩))) [] [] := by
                refine To.upd hi hf0 q1 he (by rw [q2]; exact hg) hfz (n' := n) (room' := room) (fun _ _ e => e) (by simpa [q2] using hg) (.inl rfl) hnt.2 (fun _ _ _ e => .inl e) (hchg.mono fun k e => .inl e) (by simpa using hnt.1) ?_ (hi.top l b hist q1 he)
                rw [hset]
                refine ⟨hok.kind, ⟨cur2, fz, by rw [g1, hty], by simp [hcur2], ?_, fun _ => by have := f4 hfz; rw [hc] at this; simpa using this, fun hg' => by rw [hgr] at hg'; cases hg'⟩, ?_, hok.still, hok.free, fun hz => by simp [hfz] at hz, fun _ _ => ⟨cur2, fz, by rw [g1, hty], by simp [hcur2]⟩⟩
                · have hl : (cur.toList.take 2).length = 2 := by simp [hs2]
                  simp only [List.length_cons, List.length_nil] at f3 ⊢
                  have hcl : cur.toList.take 2 = cur.toList := List.take_of_length_le (by simp [hs2])
                  rw [hcl] at f3
                  have hcl2 : cur2.toList.take 2 = cur2.toList := List.take_of_length_le (by simp [hcur2])
                  rw [hcl2, g2]
                  match hct : cur.toList, f3 with
                  | [y0, y1], .cons _ _ _ _ _ (.cons _ _ _ _ hb2 .nil) =>
                    simp only [setRange, List.set_cons_zero]
                    exact .cons _ _ _ _ (.ptr l g 0 n room hist he hg) (.cons _ _ _ _ hb2 .nil)
                · have := hok.one
                  rw [hc] at this
                  simpa [oneL, V.one] using this
              refine ⟨K, η.set l hist, Kf.le_refl _, KIn.refl _ _, hto.hle, hchg.mono fun k e => e ▸ hT, hto.inv, ?_, fun m hm => .inl (by rw [hset] at hm; exact hm), fun e ys g' hq => by cases hq⟩
              exact FrOK.one (.tuple [] #[] .nil) (by simp)
            · rename_i l' g' x hc
              split at h
              · rename_i heq
                cases h
                rw [Bool.and_eq_true] at heq
                obtain rfl := Nat.eq_of_beq_eq_true heq.1
                obtain rfl := Nat.eq_of_beq_eq_true heq.2
                rw [hc] at f3
                have hc0 : cur[0]? = some (.pointer (some ⟨n, 0, none⟩)) := by
                  cases f3' : cur.toList.take 2 with
                  | nil => simp only [List.length_cons, List.length_nil, f3'] at f3; cases f3
                  | cons y0 r =>
                    simp only [List.length_cons, List.length_nil, f3'] at f3
                    cases f3 with
                    | cons _ _ _ _ ha _ =>
                      cases ha with
                      | ptr _ _ _ n2 room2 hist2 k1 k2 =>
                        rw [he] at k1; cases k1
                        rw [hg] at k2; cases k2
                        have : (cur.toList.take 2)[0]? = some (.pointer (some ⟨n, 0, none⟩)) := by rw [f3']; rfl
                        rw [List.getElem?_take] at this
                        simpa using this
                have hw := Any.Builder_copyCheck_used L X72 n w (by simp [World.cell?, e1, hc0])
                have hcall : Calls cfg.P 78 #[.pointer (some ⟨n, 0, none⟩)] w fun e w' => e = .returned (.tuple #[]) ∧ w' = w := hw
                refine .inr ⟨enter_any (C := cfg) Tryz.func78 (by kernel_rfl) (by kernel_rfl) _, Calls.mono hcall fun e w' hq => ?_⟩
                obtain ⟨rfl, rfl⟩ := hq
                exact ret_plain hi (.tuple [] #[] .nil) (by simp) (RowKit.Below.refl _ _) fun n hn => .inl hn
              · cases h
            · cases h
      · cases h
    · cases h
  · cases h
end

theorem told : Told cfg where
  ext := by
    intro f args r h S K η σ w xs hi hF hG hr
    change extL f args = some r at h
    unfold extL at h
    split at h
    · rename_i hf
      obtain rfl := Nat.eq_of_beq_eq_true hf
      exact told_indexByte h hi hr
    · split at h
      · rename_i hf
        obtain rfl := Nat.eq_of_beq_eq_true hf
        exact told_join h hi hr
      · cases h
  extM := by
    intro f args σ v σ' h S K η w xs hi hF hG hr
    change extML f args σ = some (v, σ') at h
    unfold extML at h
    split at h
    · rename_i hf
      obtain rfl := Nat.eq_of_beq_eq_true hf
      exact told_check h hi hr
    · cases h
  mixed := by kernel_rfl
  code := fun f fn c hf hb => by
    have := Tr.allB_get code_ok hf
    unfold codeB at this
    rw [hb] at this
    simp only [Bool.and_eq_true] at this
    exact this.2
  name := fun f fn hf hn => by
    have := Tr.allB_get code_ok hf
    unfold codeB at this
    simp [hn] at this
end MI.Tryz

