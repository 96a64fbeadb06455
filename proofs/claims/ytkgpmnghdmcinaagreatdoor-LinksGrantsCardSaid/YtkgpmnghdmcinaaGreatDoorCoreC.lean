/-
  The interpreter tells the truth of whole programs; symbolic runs, closed runs by the kernel, readings. Conditions: those of each theorem.
-/
import Derived.Test.YtkgpmnghdmcinaaGreatDoorCoreB
import Derived.Tactics
import Derived.KernelRfl
import Derived.Test.YtkgpmnghdmcinaaGreatDoorCoreA
import GoSem.ClaimSeven
import Derived.DataReads
import Derived.FnData
import Derived.Below
import Derived.Lib.Bytealg
import Derived.Lib.Join
import Derived.Laws.Externs
import Derived.ProofKit
import Derived.WideShapes
import Derived.Carry
set_option linter.all false
set_option autoImplicit true
namespace MI
open Go

/-- Every region that draws its order has one that will do. -/
def okCode (C : Cfg) (f : FuncId) : Code → Bool
  | .seq a b => okCode C f a && okCode C f b
  | .cond _ a b => okCode C f a && okCode C f b
  | .block _ c => okCode C f c
  | .loop b => okCode C f b
  | .region id ops true => okPlan C ops ops.size [] (C.ord f id) && Region.noSelect ops
  | _ => true

inductive OutRel : Out → Exit → Prop
  | normal : OutRel .normal .normal
  | exit (id : Nat) : OutRel (.exit id) (.exit id)
  | ret : OutRel .ret .ret

def Post (C : Cfg) (S : Nat → Prop) (K : Kf) (η : List Hist) (w : World) (out : Out) (fr' : Fr) (σ' : Mem) (ds : List Deferred) : Exit → Act → World → Prop :=
  fun e a' w' => OutRel out e ∧ a'.defers = ds ∧ ∃ K' η', To C S K η w K' η' σ' w' fr' a'.tmps.toList

theorem post_no_panic {C : Cfg} {S : Nat → Prop} {K : Kf} {η : List Hist} {w : World} {out : Out} {fr' : Fr} {σ' : Mem} {ds : List Deferred} (c : List PanicEntry) (a : Act) (w' : World) : ¬ Post C S K η w out fr' σ' ds (.panic c) a w' := by
  rintro ⟨h, _⟩
  cases h

def LoopOK (C : Cfg) (E : Env) (f : FuncId) : Prop :=
  ∀ b fr σ out fr' σ', E.loop b fr σ = some (out, fr', σ') → okCode C f b = true → ∀ K S η w (a : Act), Inv C K S η σ w → FrOK C K S η w fr a.tmps.toList → Fresh S w → GlobOK C K →
    (Code.loop b).wp C.P (Post C S K η w out fr' σ' a.defers) a w

section
variable {C : Cfg} {S : Nat → Prop} {K : Kf} {η : List Hist} {σ : Mem} {w w' : World} {fr : Fr} {xs : List Value} {a : Act} {o : Oper} {E : Env}

theorem rel_unit {x : Value} (h : Rel C K η (.tuple []) x) : x = .tuple #[] := by
  cases h with
  | tuple _ vs h =>
    cases hv : vs.toList with
    | nil => rw [Array.toList_eq_nil_iff.1 hv]
    | cons y s => rw [hv] at h; cases h

/-- Is an operation wanted? -/
theorem wantedV_ok {α : Type} {ops : Array Oper} (hr : RelL C K η fr a.tmps.toList) {k : Bool → Ask α} {r : α} (h : (wantedV ops.toList fr o k).run E = some r) : ∃ b, (k b).run E = some r ∧ Region.wanted o (yielded ops a.tmps) = b := by
  unfold wantedV at h
  unfold Region.wanted
  cases hg : o.guard with
  | none => rw [hg] at h; exact ⟨true, h, rfl⟩
  | some p =>
    obtain ⟨j, want⟩ := p
    rw [hg] at h
    simp only at h ⊢
    split at h
    · rename_i q hq
      split at h
      · rename_i d hd
        have hq' : ops[j]? = some q := by simpa using hq
        have hy : yielded ops a.tmps j = match a.tmps[d]? with | some (.bool b) => some b | _ => none := by
          unfold yielded
          rw [hq']
          simp only [Option.bind_some, hd]
          cases a.tmps[d]? with
          | none => rfl
          | some z => cases z <;> rfl
        split at h
        · rename_i b hb
          obtain ⟨x, hx, hrx⟩ := hr.get hb
          have hx' : a.tmps[d]? = some x := by simpa using hx
          rw [rel_bool hrx] at hx'
          simp only [Ask.run] at h
          refine ⟨_, h, ?_⟩
          rw [hy, hx']
          cases b <;> cases want <;> rfl
        · rename_i hb
          obtain ⟨x, hx, hrx⟩ := hr.get hb
          have hx' : a.tmps[d]? = some x := by simpa using hx
          rw [rel_unit hrx] at hx'
          refine ⟨_, h, ?_⟩
          rw [hy, hx']
          cases want <;> rfl
        · cases h
      · cases h
    · cases h

theorem To.put {K' : Kf} {η' : List Hist} {σ' : Mem} {v : V} {x : Value} (h : To C S K η w K' η' σ' w' (v :: fr) (x :: a.tmps.toList)) (dst : Option Tmp) : To C S K η w K' η' σ' w' (putV fr dst v) (a.put dst x).tmps.toList := by
  refine ⟨h.kle, h.kin, h.hle, h.chg, h.inv, ?_⟩
  cases dst with
  | none => exact h.fr.tail
  | some d => simpa [putV, Act.put] using h.fr.put d

theorem put_defers (a : Act) (dst : Option Tmp) (x : Value) : (a.put dst x).defers = a.defers := by cases dst <;> rfl

theorem undef_rel : Rel C K η undef' undef := .tuple [] #[] .nil

theorem To.undef (hi : Inv C K S η σ w) (hf : FrOK C K S η w fr a.tmps.toList) (dst : Option Tmp) : To C S K η w K η σ w (putV fr dst undef') (a.put dst undef).tmps.toList :=
  To.put (.refl hi (hf.cons undef_rel (by simp [undef']))) dst

/-- Operations one behind the other. -/
theorem opsV_ok (hS : Good C) (hE : CallOK C E) {f : FuncId} {ops : Array Oper} {Q : Exit → Act → World → Prop} : ∀ (l : List Oper) {K : Kf} {η : List Hist} {σ : Mem} {w : World} {fr : Fr} {a : Act} {fr' : Fr} {σ' : Mem}, GlobOK C K → Inv C K S η σ w → FrOK C K S η w fr a.tmps.toList → Fresh S w →
    (opsV C f ops.toList l fr σ).run E = some (fr', σ') → (∀ K' η' w' (a' : Act), To C S K η w K' η' σ' w' fr' a'.tmps.toList → a'.defers = a.defers → Q .normal a' w') → wpList C.P ops Q l a w
  | [], K, η, σ, w, fr, a, fr', σ', hG, hi, hf, hF, h, hQ => by
    simp only [opsV, Ask.run, Option.some.injEq, Prod.mk.injEq] at h
    obtain ⟨rfl, rfl⟩ := h
    exact hQ K η w a (.refl hi hf) rfl
  | o :: r, K, η, σ, w, fr, a, fr', σ', hG, hi, hf, hF, h, hQ => by
    simp only [opsV] at h
    obtain ⟨b, hb, hw⟩ := wantedV_ok (a := a) hf.rel h
    have step : ∀ {K1 η1 σ1 w1 fr1} {a1 : Act}, To C S K η w K1 η1 σ1 w1 fr1 a1.tmps.toList → a1.defers = a.defers → (opsV C f ops.toList r fr1 σ1).run E = some (fr', σ') → wpList C.P ops Q r a1 w1 := fun ht hd hh =>
      opsV_ok hS hE r (hG.mono ht.kle) ht.inv ht.fr (hF.chg ht.chg) hh fun K' η' w' a' ht' hd' => hQ K' η' w' a' (ht.trans ht') (hd'.trans hd)
    simp only [wpList]
    cases b with
    | true =>
      rw [hw]
      simp only [if_true]
      obtain ⟨p, h1, h2⟩ := bind_some hb
      refine .inl ?_
      refine opV_ok (v := p.1) (fr' := p.2.1) (σ' := p.2.2) hS hE hG hi hf hF h1 _ _ fun K1 η1 w1 x ht _ => ?_
      exact step (ht.put o.dst) (put_defers _ _ _) h2
    | false =>
      rw [hw]
      simp only [Bool.false_eq_true, if_false]
      exact step (To.undef hi hf o.dst) (put_defers _ _ _) hb

mutual
theorem V.same_eq : {a b : V} → a.same b = true → a = b
  | .bool a, b, h => by cases b <;> simp [V.same] at h; rw [h]
  | .int k a, b, h => by cases b <;> simp [V.same] at h; rw [h.1, h.2]
  | .str a, b, h => by cases b <;> simp [V.same] at h; rw [h]
  | .nilptr, b, h => by cases b <;> simp [V.same] at h; rfl
  | .ptr l g o, b, h => by cases b <;> simp [V.same] at h; rw [h.1, h.2.1, h.2.2]
  | .eptr x o, b, h => by
    cases b <;> simp [V.same] at h
    rw [V.same_eq h.1, h.2]
  | .row a, b, h => by cases b <;> simp [V.same] at h; rw [sameL_eq h]
  | .own e a, b, h => by cases b <;> simp [V.same] at h; rw [h.1, sameL_eq h.2]
  | .nils, b, h => by cases b <;> simp [V.same] at h; rfl
  | .msl l g o n e, b, h => by cases b <;> simp [V.same] at h; rw [h.1, h.2.1, h.2.2.1, h.2.2.2.1, h.2.2.2.2]
  | .nilfn, b, h => by cases b <;> simp [V.same] at h; rfl
  | .iface t a, b, h => by cases b <;> simp [V.same] at h; rw [h.1, V.same_eq h.2]
  | .niliface, b, h => by cases b <;> simp [V.same] at h; rfl
  | .agg a, b, h => by cases b <;> simp [V.same] at h; rw [sameL_eq h]
  | .tuple a, b, h => by cases b <;> simp [V.same] at h; rw [sameL_eq h]
  | .junk, b, h => by cases b <;> simp [V.same] at h; rfl
  | .func fn a c, b, h => by
    cases b with
    | func fn' a' c' =>
      cases fn <;> cases fn' <;> simp [V.same] at h
      rw [h.1, sameL_eq h.2.1, sameL_eq h.2.2]
    | _ => cases fn <;> simp [V.same] at h
theorem sameL_eq : {a b : List V} → sameL a b = true → a = b
  | [], b, h => by cases b <;> simp [sameL] at h; rfl
  | x :: r, b, h => by
    cases b <;> simp [sameL] at h
    rw [V.same_eq h.1, sameL_eq h.2]
end

theorem sameM_eq : {a b : Mem} → sameM a b = true → a = b
  | [], b, h => by cases b <;> simp [sameM] at h; rfl
  | x :: r, b, h => by
    cases b with
    | nil => simp [sameM] at h
    | cons y s =>
      simp only [sameM, Bool.and_eq_true, Nat.beq_eq, beq_iff_eq] at h
      obtain ⟨⟨h1, h2, h3, h4, h5, h6⟩, h7⟩ := h
      have hx : x = y := by
        cases x; cases y
        simp only at h1 h2 h3 h4 h5 h6
        rw [sameL_eq h1, h2, h3, h4, h5, h6]
      rw [hx, sameM_eq h7]

/-- An operation of a region of its own order. -/
theorem stepV_ok (hS : Good C) (hE : CallOK C E) {f : FuncId} {ops : Array Oper} {Q : Exit → Act → World → Prop} {i : Nat} {fr' : Fr} {σ' : Mem} {k : Fr → Mem → Ask (Fr × Mem)} {R : Act → World → Prop} (hG : GlobOK C K) (hi : Inv C K S η σ w) (hf : FrOK C K S η w fr a.tmps.toList) (hF : Fresh S w)
    (h : (stepV C f ops.toList i fr σ k).run E = some (fr', σ'))
    (step : ∀ {K1 η1 σ1 w1 fr1} {a1 : Act}, To C S K η w K1 η1 σ1 w1 fr1 a1.tmps.toList → a1.defers = a.defers → (k fr1 σ1).run E = some (fr', σ') → R a1 w1) : wpNext C ops Q i R a w := by
  unfold stepV at h
  split at h
  · cases h
  · rename_i o ho
    have ho' : ops[i]? = some o := by simpa using ho
    obtain ⟨b, hb, hw⟩ := wantedV_ok (a := a) hf.rel h
    refine ⟨o, ho', ?_⟩
    cases b with
    | true =>
      simp only at hb
      split at hb
      · cases hb
      · rename_i hlow
        obtain ⟨p, h1, h2⟩ := bind_some hb
        split
        · rename_i hk
          obtain ⟨hσ, x, hx, hrun⟩ := opV_still (v := p.1) (fr' := p.2.1) (σ' := p.2.2) hS hG hi hf hk h1
          refine ⟨x, .inl ⟨hw, hrun⟩, ?_⟩
          rw [hσ] at h2
          exact step (To.put (.refl hi hx) o.dst) (put_defers _ _ _) h2
        · unfold wpOp
          simp only [ho', hw, if_true]
          refine .inl (opV_ok (v := p.1) (fr' := p.2.1) (σ' := p.2.2) hS hE hG hi hf hF h1 _ _ fun K1 η1 w1 x ht hg => ⟨fun hk2 => hg ⟨hk2, ?_⟩, step (ht.put o.dst) (put_defers _ _ _) h2⟩)
          simpa [hk2] using hlow
    | false =>
      simp only at hb
      split
      · exact ⟨undef, .inr ⟨hw, rfl⟩, step (To.undef hi hf o.dst) (put_defers _ _ _) hb⟩
      · unfold wpOp
        simp only [ho', hw, Bool.false_eq_true, if_false]
        exact ⟨fun _ => Grows.refl w, step (To.undef hi hf o.dst) (put_defers _ _ _) hb⟩

/-- Operations by a plan. -/
theorem drawV_ok (hS : Good C) (hE : CallOK C E) {f : FuncId} {ops : Array Oper} {Q : Exit → Act → World → Prop} : ∀ (l : Plan) {K : Kf} {η : List Hist} {σ : Mem} {w : World} {fr : Fr} {a : Act} {fr' : Fr} {σ' : Mem}, GlobOK C K → Inv C K S η σ w → FrOK C K S η w fr a.tmps.toList → Fresh S w →
    (drawV C f ops.toList l fr σ).run E = some (fr', σ') → (∀ K' η' w' (a' : Act), To C S K η w K' η' σ' w' fr' a'.tmps.toList → a'.defers = a.defers → Q .normal a' w') → wpPlan C ops Q l a w
  | .stop, K, η, σ, w, fr, a, fr', σ', hG, hi, hf, hF, h, hQ => by
    simp only [drawV, Ask.run, Option.some.injEq, Prod.mk.injEq] at h
    obtain ⟨rfl, rfl⟩ := h
    exact hQ K η w a (.refl hi hf) rfl
  | .take i r, K, η, σ, w, fr, a, fr', σ', hG, hi, hf, hF, h, hQ => by
    simp only [drawV] at h
    exact stepV_ok hS hE hG hi hf hF h fun ht hd hh => drawV_ok hS hE r (hG.mono ht.kle) ht.inv ht.fr (hF.chg ht.chg) hh fun K' η' w' a' ht' hd' => hQ K' η' w' a' (ht.trans ht') (hd'.trans hd)
  | .both i j p q, K, η, σ, w, fr, a, fr', σ', hG, hi, hf, hF, h, hQ => by
    simp only [drawV] at h
    obtain ⟨x, h1, h⟩ := bind_some h
    obtain ⟨y, h2, h⟩ := bind_some h
    simp only [Ask.run] at h
    split at h
    · rename_i hs
      rw [Bool.and_eq_true] at hs
      have e1 := sameL_eq hs.1
      have e2 := sameM_eq hs.2
      simp only [Option.some.injEq] at h
      subst h
      have hy : y = (fr', σ') := by cases y; simp only at e1 e2; rw [← e1, ← e2]
      subst hy
      exact ⟨stepV_ok hS hE hG hi hf hF h1 fun ht hd hh => drawV_ok hS hE p (hG.mono ht.kle) ht.inv ht.fr (hF.chg ht.chg) hh fun K' η' w' a' ht' hd' => hQ K' η' w' a' (ht.trans ht') (hd'.trans hd),
        stepV_ok hS hE hG hi hf hF h2 fun ht hd hh => drawV_ok hS hE q (hG.mono ht.kle) ht.inv ht.fr (hF.chg ht.chg) hh fun K' η' w' a' ht' hd' => hQ K' η' w' a' (ht.trans ht') (hd'.trans hd)⟩
    · cases h

theorem Post.trans {K1 : Kf} {η1 : List Hist} {σ1 : Mem} {w1 : World} {fr1 : Fr} {xs1 : List Value} (h : To C S K η w K1 η1 σ1 w1 fr1 xs1) {out : Out} {fr' : Fr} {σ' : Mem} {ds : List Deferred} {e : Exit} {a' : Act} {w' : World} (h' : Post C S K1 η1 w1 out fr' σ' ds e a' w') : Post C S K η w out fr' σ' ds e a' w' := by
  obtain ⟨h1, h2, K', η', h3⟩ := h'
  exact ⟨h1, h2, K', η', h.trans h3⟩

theorem Inv.drew (hi : Inv C K S η σ w) : Inv C K S η σ w.drew := hi.grows (Chg.drew _ _)

/-- A stretch of code. -/
theorem codeA_ok (hS : Good C) (hm : C.P.follows .mixedOrders = true) (hE : CallOK C E) {f : FuncId} (hL : LoopOK C E f) : ∀ (c : Code) {K : Kf} {η : List Hist} {σ : Mem} {w : World} {fr : Fr} {a : Act} {out : Out} {fr' : Fr} {σ' : Mem}, okCode C f c = true → GlobOK C K → Inv C K S η σ w → FrOK C K S η w fr a.tmps.toList → Fresh S w →
    (codeA C f c fr σ).run E = some (out, fr', σ') → c.wp C.P (Post C S K η w out fr' σ' a.defers) a w
  | .skip, K, η, σ, w, fr, a, out, fr', σ', hok, hG, hi, hf, hF, h => by
    simp only [codeA, Ask.run, Option.some.injEq, Prod.mk.injEq] at h
    obtain ⟨rfl, rfl, rfl⟩ := h
    exact wp_skip ⟨.normal, rfl, K, η, .refl hi hf⟩
  | .exit id, K, η, σ, w, fr, a, out, fr', σ', hok, hG, hi, hf, hF, h => by
    simp only [codeA, Ask.run, Option.some.injEq, Prod.mk.injEq] at h
    obtain ⟨rfl, rfl, rfl⟩ := h
    exact wp_exit ⟨.exit id, rfl, K, η, .refl hi hf⟩
  | .ret, K, η, σ, w, fr, a, out, fr', σ', hok, hG, hi, hf, hF, h => by
    simp only [codeA, Ask.run, Option.some.injEq, Prod.mk.injEq] at h
    obtain ⟨rfl, rfl, rfl⟩ := h
    exact wp_ret ⟨.ret, rfl, K, η, .refl hi hf⟩
  | .seq x y, K, η, σ, w, fr, a, out, fr', σ', hok, hG, hi, hf, hF, h => by
    simp only [okCode, Bool.and_eq_true] at hok
    simp only [codeA, thenA] at h
    obtain ⟨⟨o1, fr1, σ1⟩, h1, h2⟩ := bind_some h
    refine wp_seq (wp_mono (codeA_ok hS hm hE hL x hok.1 hG hi hf hF h1) fun e a1 w1 hp => ?_)
    obtain ⟨p1, p2, K1, η1, p3⟩ := hp
    cases p1 with
    | normal =>
      simp only [Exit.then]
      refine wp_mono (codeA_ok hS hm hE hL y hok.2 (hG.mono p3.kle) p3.inv p3.fr (hF.chg p3.chg) h2) fun e a2 w2 hp2 => ?_
      rw [p2] at hp2
      exact Post.trans p3 hp2
    | exit id =>
      simp only [Ask.run, Option.some.injEq, Prod.mk.injEq] at h2
      obtain ⟨rfl, rfl, rfl⟩ := h2
      exact ⟨.exit id, p2, K1, η1, p3⟩
    | ret =>
      simp only [Ask.run, Option.some.injEq, Prod.mk.injEq] at h2
      obtain ⟨rfl, rfl, rfl⟩ := h2
      exact ⟨.ret, p2, K1, η1, p3⟩
  | .cond c x y, K, η, σ, w, fr, a, out, fr', σ', hok, hG, hi, hf, hF, h => by
    simp only [okCode, Bool.and_eq_true] at hok
    simp only [codeA] at h
    split at h
    · rename_i t hc
      have hr := evalV_rel hG hf.rel c
      rw [hc] at hr
      refine wp_cond (rel_bool hr) ?_
      simp only [Ask.run] at h
      cases t with
      | true => exact codeA_ok hS hm hE hL x hok.1 hG hi hf hF h
      | false => exact codeA_ok hS hm hE hL y hok.2 hG hi hf hF h
    · cases h
  | .block id c, K, η, σ, w, fr, a, out, fr', σ', hok, hG, hi, hf, hF, h => by
    simp only [okCode] at hok
    simp only [codeA] at h
    obtain ⟨⟨o1, fr1, σ1⟩, h1, h2⟩ := bind_some h
    refine wp_block (wp_mono (codeA_ok hS hm hE hL c hok hG hi hf hF h1) fun e a1 w1 hp => ?_)
    obtain ⟨p1, p2, K1, η1, p3⟩ := hp
    cases p1 with
    | normal =>
      simp only [Ask.run, Option.some.injEq, Prod.mk.injEq] at h2
      obtain ⟨rfl, rfl, rfl⟩ := h2
      exact ⟨.normal, p2, K1, η1, p3⟩
    | exit j =>
      simp only [Exit.inBlock]
      simp only at h2
      split at h2
      · rename_i hj
        simp only [Ask.run, Option.some.injEq, Prod.mk.injEq] at h2
        obtain ⟨rfl, rfl, rfl⟩ := h2
        rw [if_pos hj]
        exact ⟨.normal, p2, K1, η1, p3⟩
      · rename_i hj
        simp only [Ask.run, Option.some.injEq, Prod.mk.injEq] at h2
        obtain ⟨rfl, rfl, rfl⟩ := h2
        rw [if_neg hj]
        exact ⟨.exit j, p2, K1, η1, p3⟩
    | ret =>
      simp only [Ask.run, Option.some.injEq, Prod.mk.injEq] at h2
      obtain ⟨rfl, rfl, rfl⟩ := h2
      exact ⟨.ret, p2, K1, η1, p3⟩
  | .loop b, K, η, σ, w, fr, a, out, fr', σ', hok, hG, hi, hf, hF, h => by
    simp only [okCode] at hok
    simp only [codeA, Ask.run] at h
    split at h
    · rename_i o1 fr1 σ1 hl
      simp only [Option.some.injEq, Prod.mk.injEq] at h
      obtain ⟨rfl, rfl, rfl⟩ := h
      exact hL _ _ _ _ _ _ hl hok K S η w a hi hf hF hG
    · cases h
  | .region id ops false, K, η, σ, w, fr, a, out, fr', σ', hok, hG, hi, hf, hF, h => by
    simp only [codeA] at h
    obtain ⟨⟨fr1, σ1⟩, h1, h2⟩ := bind_some h
    simp only [Ask.run, Option.some.injEq, Prod.mk.injEq] at h2
    obtain ⟨rfl, rfl, rfl⟩ := h2
    exact wp_region_list (opsV_ok hS hE ops.toList hG hi hf hF h1 fun K' η' w' a' ht hd => ⟨.normal, hd, K', η', ht⟩)
  | .region id ops true, K, η, σ, w, fr, a, out, fr', σ', hok, hG, hi, hf, hF, h => by
    simp only [okCode, Bool.and_eq_true] at hok
    simp only [codeA] at h
    obtain ⟨⟨fr1, σ1⟩, h1, h2⟩ := bind_some h
    simp only [Ask.run, Option.some.injEq, Prod.mk.injEq] at h2
    obtain ⟨rfl, rfl, rfl⟩ := h2
    have hgr : Grows w w.drew := Chg.drew _ _
    have hfd : FrOK C K S η w.drew fr a.tmps.toList := hf.world (Kf.le_refl _) (Hle.refl _) hgr (KIn.refl _ _) (fun n hn => .inl hn) fun n hn hlt => absurd hlt (by omega)
    refine wp_region_seq hm (fun c a w' => post_no_panic c a w') hok.2 hok.1 (drawV_ok (w := w.drew) hS hE _ hG hi.drew hfd (hF.chg hgr) h1 fun K' η' w' a' ht hd => ⟨.normal, hd, K', η', ?_⟩)
    exact ⟨ht.kle, ht.kin, ht.hle, (Chg.drew S w).trans ht.chg, ht.inv, ht.fr⟩
  | .rangeFunc _ _ _ _, K, η, σ, w, fr, a, out, fr', σ', hok, hG, hi, hf, hF, h => by simp only [codeA] at h; cases h
  | .scope _, K, η, σ, w, fr, a, out, fr', σ', hok, hG, hi, hf, hF, h => by simp only [codeA] at h; cases h
  | .label _, K, η, σ, w, fr, a, out, fr', σ', hok, hG, hi, hf, hF, h => by simp only [codeA] at h; cases h
  | .goto _, K, η, σ, w, fr, a, out, fr', σ', hok, hG, hi, hf, hF, h => by simp only [codeA] at h; cases h
  | .refuse _, K, η, σ, w, fr, a, out, fr', σ', hok, hG, hi, hf, hF, h => by simp only [codeA] at h; cases h

end
end MI

namespace MI
open Go

theorem exists_least {p : Nat → Prop} : ∀ n, p n → ∃ m, p m ∧ ∀ k, p k → m ≤ k := by
  intro n
  induction n using Nat.strongRecOn with
  | _ n ih =>
    intro hn
    by_cases h : ∃ k, k < n ∧ p k
    · obtain ⟨k, hk, hp⟩ := h
      exact ih k hk hp
    · exact ⟨n, hn, fun k hk => Nat.le_of_not_lt fun hlt => h ⟨k, hlt, hk⟩⟩

open Classical in
noncomputable def least (p : Nat → Prop) : Nat := if h : ∃ n, p n then choose (exists_least _ (choose_spec h)) else 0
theorem least_spec {p : Nat → Prop} (h : ∃ n, p n) : p (least p) ∧ ∀ k, p k → least p ≤ k := by
  unfold least
  rw [dif_pos h]
  exact Classical.choose_spec (exists_least _ (Classical.choose_spec h))

/-- A loop by what is left of the rounds. -/
theorem wp_loop_fuel {P : Program} {c : Code} {Q : Exit → Act → World → Prop} (R : Nat → Act → World → Prop) (h0 : ∀ a w, ¬ R 0 a w) (round : ∀ n a w, R (n + 1) a w → c.wp P (Exit.then (R n) Q) a w) {n : Nat} {a : Act} {w : World} (h : R n a w) : (Code.loop c).wp P Q a w := by
  refine wp_loop (fun a w => ∃ n, R n a w) (fun a w => least fun n => R n a w) ⟨n, h⟩ fun a w hI => ?_
  obtain ⟨h1, h2⟩ := least_spec hI
  cases hm : least (fun n => R n a w) with
  | zero => rw [hm] at h1; exact absurd h1 (h0 a w)
  | succ m =>
    rw [hm] at h1
    refine wp_mono (round m a w h1) fun e a' w' hq => ?_
    cases e with
    | normal =>
      simp only [Exit.then] at hq ⊢
      refine ⟨⟨m, hq⟩, ?_⟩
      have := (least_spec (p := fun n => R n a' w') ⟨m, hq⟩).2 m hq
      omega
    | _ => exact hq

section
variable {C : Cfg} {S : Nat → Prop} {K : Kf} {η : List Hist} {σ : Mem} {w w' : World} {fr : Fr} {xs : List Value} {a : Act} {o : Oper} {E : Env}

theorem lowBlks_get {n : Nat} : ∀ {l : List Blk} {i : Nat} {b : Blk}, lowBlks n l = true → l[i]? = some b → lowL n b.cells = true
  | [], i, b, _, h => by simp at h
  | c :: r, 0, b, h, hb => by
    simp only [lowBlks, Bool.and_eq_true] at h
    simp at hb
    subst hb
    exact h.1
  | c :: r, i + 1, b, h, hb => by
    simp only [lowBlks, Bool.and_eq_true] at h
    exact lowBlks_get h.2 (by simpa using hb)

theorem get_take {α : Type} {l : List α} {n i : Nat} {x : α} (h : (l.take n)[i]? = some x) : l[i]? = some x ∧ i < n := by
  rw [List.getElem?_take] at h
  split at h
  · rename_i hi; exact ⟨h, hi⟩
  · cases h

/-- What is not reached any more goes. -/
theorem Inv.take (hi : Inv C K S η σ w) {n : Nat} (hl : lowBlks n (σ.take n) = true) : Inv C K S (η.take n) (σ.take n) w := by
  refine ⟨hi.kf, by simp [hi.len], fun l b hb => ?_, fun l l' b b' h h' m r m' r' hne hb hb' he he' => hi.inj l l' b b' h h' m r m' r' hne (get_take hb).1 (get_take hb').1 (get_take he).1 (get_take he').1, fun m hm => hi.tlt m hm.take, fun l b h hb he => hi.top l b h (get_take hb).1 (get_take he).1⟩
  obtain ⟨hb1, hln⟩ := get_take hb
  obtain ⟨h, m, room, he, hg, hok⟩ := hi.blk l b hb1
  have hlow := lowBlks_get hl hb
  obtain ⟨cur, fz, e1, e2, e3, e4, e5⟩ := hok.heap
  refine ⟨h, m, room, by rw [List.getElem?_take_of_lt hln]; exact he, hg, hok.kind, ⟨cur, fz, e1, e2, e3.low n hlow, e4, e5⟩, hok.one, hok.still, hok.free, fun hf => ?_, hok.exact⟩
  obtain ⟨vs, g1, g2⟩ := hok.held hf
  exact ⟨vs, g1.low n hlow, g2⟩

theorem junkHigh_get (n : Nat) : ∀ (fr : Fr) (i : Nat), (junkHigh n fr)[i]? = (fr[i]?).map fun v => match v.low n with | true => v | false => .junk
  | [], i => by simp [junkHigh]
  | v :: r, 0 => by
    simp only [junkHigh, List.getElem?_cons_zero, Option.map_some]
    cases v.low n <;> rfl
  | v :: r, i + 1 => by simpa [junkHigh] using junkHigh_get n r i

theorem junkHigh_rel (n : Nat) : ∀ {fr : Fr} {xs : List Value}, RelL C K η fr xs → RelL C K (η.take n) (junkHigh n fr) xs
  | _, _, .nil => .nil
  | _, _, .cons v x r s h t => by
    simp only [junkHigh]
    refine .cons _ _ _ _ ?_ (junkHigh_rel n t)
    cases hl : v.low n with
    | true => exact h.low n hl
    | false => exact .junk _

theorem OwnAt.take {e : TypeId} {ys : List V} {x : Value} {k : Nat} {cells : List Value} (h : OwnAt C K S η w e ys x k cells) (n : Nat) : OwnAt C K S (η.take n) w e ys x k cells :=
  ⟨h.siz, h.pos, h.row, h.rel, h.each, h.one, fun g hg => ⟨(h.blk g hg).1, (h.blk g hg).2.1, fun ht => (h.blk g hg).2.2 ht.take⟩⟩

theorem FrOK.junk (hf : FrOK C K S η w fr xs) (n : Nat) : FrOK C K S (η.take n) w (junkHigh n fr) xs := by
  have key : ∀ (i : Nat) (e : TypeId) (ys : List V), (junkHigh n fr)[i]? = some (.own e ys) → fr[i]? = some (.own e ys) := fun i e ys h => by
    rw [junkHigh_get] at h
    cases hv : fr[i]? with
    | none => rw [hv] at h; cases h
    | some v =>
      rw [hv] at h
      simp only [Option.map_some, Option.some.injEq] at h
      split at h
      · rw [h]
      · cases h
  refine ⟨junkHigh_rel n hf.rel, fun i e ys x h hx => ?_, fun i j e ys x e' ys' x' g hij h1 hx h2 hx' hg => hf.apart i j e ys x e' ys' x' g hij (key _ _ _ h1) hx (key _ _ _ h2) hx' hg⟩
  obtain ⟨k, cells, ho⟩ := hf.own i e ys x (key _ _ _ h) hx
  exact ⟨k, cells, ho.take n⟩

theorem To.sweep {K' : Kf} {η' : List Hist} {σ' : Mem} {fr' : Fr} {xs' : List Value} {n : Nat} (h : To C S K η w K' η' σ' w' fr' xs') (hn : η.length ≤ n) : ∃ η'', To C S K η w K' η'' (sweep n fr' σ').2 w' (sweep n fr' σ').1 xs' := by
  unfold MI.sweep
  split
  · rename_i hl
    exact ⟨η'.take n, h.kle, h.kin, h.hle.take n hn, h.chg, h.inv.take hl, h.fr.junk n⟩
  · exact ⟨η', h⟩

/-- A loop. -/
theorem loopN_ok (hS : Good C) (hm : C.P.follows .mixedOrders = true) (hE : CallOK C E) {f : FuncId} (hL : LoopOK C E f) {b : Code} (hok : okCode C f b = true) {n : Nat} {out : Out} {fr' : Fr} {σ' : Mem} (h : loopN C E f b n fr σ = some (out, fr', σ')) (hi : Inv C K S η σ w) (hf : FrOK C K S η w fr a.tmps.toList) (hF : Fresh S w) (hG : GlobOK C K) :
    (Code.loop b).wp C.P (Post C S K η w out fr' σ' a.defers) a w := by
  refine wp_loop_fuel (R := fun m a1 w1 => ∃ K1 η1 σ1 fr1, To C S K η w K1 η1 σ1 w1 fr1 a1.tmps.toList ∧ a1.defers = a.defers ∧ loopN C E f b m fr1 σ1 = some (out, fr', σ')) ?_ ?_ (n := n) ⟨K, η, σ, fr, .refl hi hf, rfl, h⟩
  · rintro a1 w1 ⟨K1, η1, σ1, fr1, _, _, h1⟩
    simp [loopN] at h1
  · rintro m a1 w1 ⟨K1, η1, σ1, fr1, ht, hd, h1⟩
    simp only [loopN] at h1
    split at h1
    · rename_i fr2 σ2 hr
      refine wp_mono (codeA_ok hS hm hE hL b hok (hG.mono ht.kle) ht.inv ht.fr (hF.chg ht.chg) hr) fun e a2 w2 hp => ?_
      obtain ⟨p1, p2, K2, η2, p3⟩ := hp
      cases p1
      simp only [Exit.then]
      cases hmf : C.memF f with
      | true =>
        rw [hmf] at h1
        exact ⟨K2, η2, _, _, ht.trans p3, by rw [p2, hd], h1⟩
      | false =>
        rw [hmf] at h1
        obtain ⟨η3, p4⟩ := p3.sweep (n := σ1.length) (by rw [ht.inv.len]; exact Nat.le_refl _)
        exact ⟨K2, η3, _, _, ht.trans p4, by rw [p2, hd], h1⟩
    · rename_i r hne hr
      cases h1
      refine wp_mono (codeA_ok hS hm hE hL b hok (hG.mono ht.kle) ht.inv ht.fr (hF.chg ht.chg) hr) fun e a2 w2 hp => ?_
      have hp' := Post.trans ht hp
      rw [hd] at hp'
      have hout := hp'.1
      cases hout with
      | normal => exact (hne _ _ rfl).elim
      | exit id => exact hp'
      | ret => exact hp'
    · cases h1

/-! ### What a function hands back -/
def resOf (tmps : Array Value) : ResultVar → Sem Value
  | .tmp t => pure (tmps.getD t undef)
  | .cell p t => do loadVar t (← asAddr (tmps.getD p undef))

theorem resL_ok (hS : Good C) (hi : Inv C K S η σ w) (hr : RelL C K η fr a.tmps.toList) : ∀ {l : List ResultVar} {vs : List V}, resL C fr σ l = some vs →
    ∃ ys : List Value, (l.mapM (resOf a.tmps)).run C.P w = .ok ys w ∧ RelL C K η vs ys ∧
      (∀ t, l = [.tmp t] → vs = [fr.getD t undef'] ∧ ys = [a.tmps.getD t undef]) ∧ ((∀ t, l ≠ [.tmp t]) → l.length = 1 → ∀ (v : V), vs = [v] → ∀ e zs, v ≠ .own e zs) ∧ vs.length = l.length
  | [], vs, h => by
    simp only [resL, Option.some.injEq] at h
    subst h
    exact ⟨[], rfl, .nil, by simp, by simp, rfl⟩
  | .tmp t :: r, vs, h => by
    simp only [resL] at h
    split at h
    · rename_i l' hl
      cases h
      obtain ⟨ys, h1, h2, h3, h4, h5⟩ := resL_ok hS hi hr hl
      refine ⟨a.tmps.getD t undef :: ys, ?_, .cons _ _ _ _ ?_ h2, fun t' e => ?_, fun hne hlen => ?_, by simp [h5]⟩
      · simp only [List.mapM_cons, resOf, Sem.run_bind, Sem.run_pure, Result.andThen_ok, h1]
      · have := hr.getD t
        simpa [Array.getD_eq_getD_getElem?, List.getD] using this
      · simp only [List.cons.injEq] at e
        obtain ⟨e1, e2⟩ := e
        cases e1
        subst e2
        simp only [resL, Option.some.injEq] at hl
        subst hl
        cases h2
        exact ⟨rfl, rfl⟩
      · have : r = [] := List.eq_nil_of_length_eq_zero (by simpa using hlen)
        subst this
        exact absurd rfl (hne t)
    · cases h
  | .cell p t :: r, vs, h => by
    simp only [resL] at h
    split at h
    · rename_i v hv
      split at h
      · rename_i l' hl
        cases h
        obtain ⟨ys, h1, h2, h3, h4, h5⟩ := resL_ok hS hi hr hl
        have hp : Rel C K η (fr.getD p undef') (a.tmps.getD p undef) := by
          have := hr.getD p
          simpa [Array.getD_eq_getD_getElem?, List.getD] using this
        obtain ⟨x, hx, hrx, hne⟩ := loadV_run hS hi hp hv
        have hx' := hx w (Grows.refl w)
        have haddr : (do loadVar t (← asAddr (a.tmps.getD p undef)) : Sem Value).run C.P w = .ok x w := by
          generalize a.tmps.getD p undef = q at hp hx'
          generalize fr.getD p undef' = u at hp hv
          unfold loadV at hv
          split at hv
          · cases hp; simpa [asAddr, Instr.loadAt, Instr.sureAddr] using hx'
          · cases hp; simpa [asAddr, Instr.loadAt, Instr.sureAddr] using hx'
          · cases hv
        have hfst : ∀ t', (ResultVar.cell p t :: r) = [.tmp t'] → v :: l' = [fr.getD t' undef'] ∧ x :: ys = [a.tmps.getD t' undef] := fun t' e => by simp at e
        refine ⟨x :: ys, ?_, .cons _ _ _ _ hrx h2, hfst, fun _ hlen u hu e zs => ?_, by simp [h5]⟩
        · rw [List.mapM_cons]
          simp only [Sem.run_bind, resOf] at haddr ⊢
          simp only [haddr, Result.andThen_ok, h1, Sem.run_pure]
        · simp only [List.cons.injEq] at hu
          rw [← hu.1]
          exact hne e zs
      · cases h
    · cases h

end
end MI

namespace MI
open Go

section
variable {C : Cfg} {S S' : Nat → Prop} {K : Kf} {η : List Hist} {σ : Mem} {w w' : World} {fr : Fr} {xs : List Value} {a : Act} {o : Oper} {E : Env}

theorem Inv.monoS (hi : Inv C K S η σ w) (hs : ∀ n, Touch η n → S' n) : Inv C K S' η σ w :=
  ⟨hi.kf, hi.len, hi.blk, hi.inj, fun n hn => ⟨(hi.tlt n hn).1, hs n hn⟩, hi.top⟩

theorem OwnAt.monoS {e : TypeId} {ys : List V} {x : Value} {k : Nat} {cells : List Value} (h : OwnAt C K S η w e ys x k cells) (hs : ∀ g, x.ownBlock = some g → S' g) : OwnAt C K S' η w e ys x k cells :=
  ⟨h.siz, h.pos, h.row, h.rel, h.each, h.one, fun g hg => ⟨hs g hg, (h.blk g hg).2.1, (h.blk g hg).2.2⟩⟩

theorem FrOK.monoS (hf : FrOK C K S η w fr xs) (hs : ∀ (i : Nat) (e : TypeId) (ys : List V) (x : Value) (g : Nat), fr[i]? = some (.own e ys) → xs[i]? = some x → x.ownBlock = some g → S' g) : FrOK C K S' η w fr xs :=
  ⟨hf.rel, fun i e ys x hi hx => by
    obtain ⟨k, cells, ho⟩ := hf.own i e ys x hi hx
    exact ⟨k, cells, ho.monoS fun g hg => hs i e ys x g hi hx hg⟩, hf.apart⟩

theorem FrOK.nil : FrOK C K S η w [] [] := ⟨.nil, fun i e ys x h => by simp at h, fun i j e ys x e' ys' x' g _ h => by simp at h⟩

theorem FrOK.one {v : V} {x : Value} (hr : Rel C K η v x) (hv : ∀ e ys, v ≠ .own e ys) : FrOK C K S η w [v] [x] := FrOK.nil.cons hr hv

theorem FrOK.rest (hr : RelL C K η fr xs) (hv : ∀ (i : Nat) (e : TypeId) (ys : List V), fr[i]? ≠ some (.own e ys)) : FrOK C K S η w fr xs :=
  ⟨hr, fun i e ys x hi _ => absurd hi (hv i e ys), fun i j e ys x e' ys' x' g _ hi => absurd hi (hv i e ys)⟩

theorem FrOK.slotOne (hf : FrOK C K S η w fr xs) (t : Nat) : FrOK C K S η w [fr.getD t undef'] [xs.getD t undef] := by
  have := hf.take t
  refine ⟨.cons _ _ _ _ (hf.rel.getD t) .nil, fun i e ys x hi hx => ?_, fun i j e ys x e' ys' x' g hij hi hx hj => ?_⟩
  · cases i with
    | zero => exact this.own 0 e ys x (by simpa using hi) (by simpa using hx)
    | succ i => simp at hi
  · cases i with
    | zero => cases j with
      | zero => exact absurd rfl hij
      | succ j => simp at hj
    | succ i => simp at hi

theorem FrOK.pad (hf : FrOK C K S η w fr xs) (k : Nat) : FrOK C K S η w (fr ++ List.replicate k undef') (xs ++ List.replicate k undef) := by
  have hl := hf.rel.length
  have key : ∀ (i : Nat) (e : TypeId) (ys : List V) (x : Value), (fr ++ List.replicate k undef')[i]? = some (.own e ys) → (xs ++ List.replicate k undef)[i]? = some x → fr[i]? = some (.own e ys) ∧ xs[i]? = some x := fun i e ys x h hx => by
    rcases Nat.lt_or_ge i fr.length with hi | hi
    · rw [List.getElem?_append_left hi] at h
      rw [List.getElem?_append_left (by omega)] at hx
      exact ⟨h, hx⟩
    · rw [List.getElem?_append_right hi, List.getElem?_replicate] at h
      split at h
      · cases h
      · cases h
  have hrep : ∀ k, RelL C K η (List.replicate k undef') (List.replicate k undef) := fun k => by
    induction k with
    | zero => exact .nil
    | succ k ih => exact .cons _ _ _ _ undef_rel ih
  refine ⟨hf.rel.append (hrep k), fun i e ys x h hx => ?_, fun i j e ys x e' ys' x' g hij h1 hx h2 hx' => ?_⟩
  · obtain ⟨h1, h2⟩ := key i e ys x h hx
    exact hf.own i e ys x h1 h2
  · obtain ⟨p1, p2⟩ := key i e ys x h1 hx
    obtain ⟨q1, q2⟩ := key j e' ys' x' h2 hx'
    exact hf.apart i j e ys x e' ys' x' g hij p1 p2 q1 q2

theorem results_ok (hS : Good C) (hi : Inv C K S η σ w) (hf : FrOK C K S η w fr a.tmps.toList) {fn : Func} {v : V} (h : resultsV C fn fr σ = some v) : ∃ x, (results fn a.tmps).run C.P w = .ok x w ∧ FrOK C K S η w [v] [x] := by
  have hres : results fn a.tmps = (do let vs ← fn.results.mapM (resOf a.tmps); pure (if h : vs.size = 1 then vs[0] else .tuple vs)) := by
    unfold results
    congr 1
  unfold resultsV at h
  cases hl : resL C fr σ fn.results.toList with
  | none => rw [hl] at h; cases h
  | some vs =>
    obtain ⟨ys, h1, h2, h3, h4, h5⟩ := resL_ok (a := a) hS hi hf.rel hl
    have hrun : (results fn a.tmps).run C.P w = .ok (if h : ys.toArray.size = 1 then ys.toArray[0] else .tuple ys.toArray) w := by
      rw [hres, Array.mapM_eq_mapM_toList]
      simp only [Sem.run_bind, map_eq_pure_bind, h1, Result.andThen_ok, Sem.run_pure]
    rw [hl] at h
    have hlen := h2.length
    cases vs with
    | nil =>
      cases h
      cases h2
      exact ⟨_, hrun, .one (.tuple [] #[] .nil) (by simp)⟩
    | cons u r =>
      cases r with
      | nil =>
        cases h
        cases h2 with
        | cons _ y _ s hr ht =>
          cases ht
          refine ⟨y, by simpa using hrun, ?_⟩
          by_cases ht : ∃ t, fn.results.toList = [.tmp t]
          · obtain ⟨t, ht⟩ := ht
            obtain ⟨e1, e2⟩ := h3 t ht
            have hs := hf.slotOne t
            have e3 : a.tmps.getD t undef = a.tmps.toList.getD t undef := by simp [Array.getD_eq_getD_getElem?, List.getD]
            simp only [List.cons.injEq, and_true] at e1 e2
            rw [e1, e2, e3]
            exact hs
          · exact .one hr (h4 (fun t e => ht ⟨t, e⟩) (by simpa using h5.symm) _ rfl)
      | cons u2 r2 =>
        cases h
        refine ⟨.tuple ys.toArray, ?_, .one (.tuple _ _ (by simpa using h2)) (by simp)⟩
        rw [hrun, dif_neg (by simp at hlen ⊢; omega)]

/-- What a body leaves behind. -/
def Leaves (C : Cfg) (S : Nat → Prop) (K : Kf) (η : List Hist) (w : World) (v : V) (σ' : Mem) (e : Ending) (w' : World) : Prop :=
  match e with
  | .returned x => ∃ K' η', K.le K' ∧ KIn S K K' ∧ Hle η η' ∧ Chg S w w' ∧ Inv C K' S η' σ' w' ∧ FrOK C K' S η' w' [v] [x]
  | _ => False

theorem bodyF_ok (hS : Good C) (hm : C.P.follows .mixedOrders = true) {En : FuncId → Env} (hE : ∀ f, CallOK C (En f)) (hL : ∀ f, LoopOK C (En f) f) {f : FuncId} {fn : Func} (hfn : C.fn f = some fn) (hcode : ∀ c, fn.body = some c → okCode C f c = true) {args : List V} {v : V} {σ' : Mem}
    (h : bodyF C (fun f c fr σ => (codeA C f c fr σ).run (En f)) f fn args σ = some (v, σ')) (hi : Inv C K S η σ w) (hf : FrOK C K S η w args xs) (hF : Fresh S w) (hG : GlobOK C K) :
    fn.body.isSome = true ∧ Calls C.P f xs.toArray w (Leaves C S K η w v σ') := by
  unfold bodyF at h
  split at h
  · rename_i u σ1 hen
    unfold enterF at hen
    split at hen
    · cases hen
    · rename_i c hb
      refine ⟨by rw [hb]; rfl, calls_of_wp (hS.fn f fn hfn) hb ?_⟩
      have hpad := hf.pad (fn.ntmps - args.length)
      have hlen := hf.rel.length
      have htm : (xs.toArray ++ Array.replicate (fn.ntmps - xs.toArray.size) undef).toList = xs ++ List.replicate (fn.ntmps - args.length) undef := by
        simp [hlen]
      have hcont : ∀ {out fr1 σ2}, (codeA C f c (args ++ List.replicate (fn.ntmps - args.length) undef') σ).run (En f) = some (out, fr1, σ2) → (out = .normal ∨ out = .ret) → resultsV C fn fr1 σ2 = some u → σ1 = σ2 →
          c.wp C.P (bodyPost C.P fn (Leaves C S K η w v σ')) { tmps := xs.toArray ++ Array.replicate (fn.ntmps - xs.toArray.size) undef, defers := [] } w := fun {out fr1 σ2} hrun hout hres hσ => by
        subst hσ
        refine wp_mono (codeA_ok (a := { tmps := xs.toArray ++ Array.replicate (fn.ntmps - xs.toArray.size) undef, defers := [] }) hS hm (hE f) (hL f) c (hcode c hb) hG hi (by rw [htm]; exact hpad) hF hrun) fun e a' w' hp => ?_
        obtain ⟨p1, p2, K', η', p3⟩ := hp
        obtain ⟨x, hx, hxf⟩ := results_ok (a := a') hS p3.inv p3.fr hres
        have hfin : Leaves C S K η w v σ' (.returned x) w' := by
          cases hkp : C.keep f with
          | true =>
            rw [hkp] at h
            cases h
            exact ⟨K', η', p3.kle, p3.kin, p3.hle, p3.chg, p3.inv, hxf⟩
          | false =>
            rw [hkp] at h
            have hr : Rel C K' η' u x := by cases hxf.rel with | cons _ _ _ _ hh _ => exact hh
            obtain ⟨K2, hk, hr2, hn2⟩ := frz_ok u p3.inv hr h
            exact ⟨K2, η', Kf.le_trans p3.kle hk.kle, p3.kin.trans (hk.kin.mono fun n hn => (p3.inv.tlt n hn).2), p3.hle, p3.chg, hk.inv, .one hr2 hn2⟩
        rcases hout with rfl | rfl
        · cases p1
          exact ⟨p2, x, hx, hfin⟩
        · cases p1
          exact ⟨p2, x, hx, hfin⟩
      split at hen
      · cases hen
      · rename_i out fr1 σ2 hne hrun
        split at hen
        · rename_i u' hres
          cases hen
          refine hcont hrun ?_ hres rfl
          cases out with
          | normal => exact .inl rfl
          | exit id => exact (hne id rfl).elim
          | ret => exact .inr rfl
        · cases hen
      · cases hen
  · cases h

end
end MI

namespace MI
open Go

theorem shiftL_append (n : Nat) (a b : List V) : shiftL n (a ++ b) = shiftL n a ++ shiftL n b := by
  induction a with
  | nil => rfl
  | cons x r ih => simp [shiftL, ih]

theorem length_shiftL (n : Nat) (a : List V) : (shiftL n a).length = a.length := by
  induction a with
  | nil => rfl
  | cons x r ih => simp [shiftL, ih]

theorem one_shift (n : Nat) (v : V) : (shift n v).one = v.one := by cases v <;> simp [shift, V.one]
theorem oneL_shiftL (n : Nat) (a : List V) : oneL (shiftL n a) = oneL a := by
  induction a with
  | nil => rfl
  | cons x r ih => simp [shiftL, oneL, ih, one_shift]

theorem shiftB_get (n : Nat) : ∀ (l : List Blk) (i : Nat), (shiftB n l)[i]? = (l[i]?).map fun b => { b with cells := shiftL n b.cells }
  | [], i => by simp [shiftB]
  | b :: r, 0 => by simp [shiftB]
  | b :: r, i + 1 => by simpa [shiftB] using shiftB_get n r i

theorem length_shiftB (n : Nat) (l : List Blk) : (shiftB n l).length = l.length := by
  induction l with
  | nil => rfl
  | cons b r ih => simp [shiftB, ih]

theorem get_append_add {α : Type} (a b : List α) (l : Nat) : (a ++ b)[a.length + l]? = b[l]? := by
  rw [List.getElem?_append_right (by omega)]
  simp

section
variable {C : Cfg} {S S' : Nat → Prop} {K : Kf} {η η' : List Hist} {σ σ' : Mem} {w w' : World} {fr : Fr} {xs : List Value} {a : Act} {o : Oper} {E : Env}

mutual
theorem Rel.shift (η : List Hist) {η' : List Hist} : {v : V} → {x : Value} → Rel C K η' v x → Rel C K (η ++ η') (shift η.length v) x
  | _, _, .bool b => .bool b
  | _, _, .int k n => .int k n
  | _, _, .str b => .str b
  | _, _, .nilptr => .nilptr
  | _, _, .ptr l g off b room h h1 h2 => .ptr _ g off b room h (by rw [get_append_add]; exact h1) h2
  | _, _, .eptr x off b o cvs h1 h2 h3 => .eptr x off b o cvs h1 h2 h3
  | _, _, .row xs b o cap k cvs h0 h1 h2 h3 h4 => .row xs b o cap k cvs h0 h1 h2 h3 h4
  | _, _, .rowNil a cap => .rowNil a cap
  | _, _, .own e xs v h => .own e xs v h
  | _, _, .nils => .nils
  | _, _, .msl l g off len e b room k cap h h1 h2 h3 h4 h5 => .msl _ g off len e b room k cap h (by rw [get_append_add]; exact h1) h2 h3 h4 h5
  | _, _, .mslNil l g off e b room h h1 h2 h3 a cap => .mslNil _ g off e b room h (by rw [get_append_add]; exact h1) h2 h3 a cap
  | _, _, .func fn a b a' b' h1 h2 => .func fn _ _ a' b' (RelL.shift η h1) (RelL.shift η h2)
  | _, _, .nilfn => .nilfn
  | _, _, .iface t v x h => .iface t _ x (Rel.shift η h)
  | _, _, .niliface => .niliface
  | _, _, .agg cs vs h => .agg _ vs (RelL.shift η h)
  | _, _, .tuple cs vs h => .tuple _ vs (RelL.shift η h)
  | _, _, .junk v => .junk v
theorem RelL.shift (η : List Hist) {η' : List Hist} : {vs : List V} → {xs : List Value} → RelL C K η' vs xs → RelL C K (η ++ η') (shiftL η.length vs) xs
  | _, _, .nil => .nil
  | _, _, .cons v x r s h t => .cons _ _ _ _ (Rel.shift η h) (RelL.shift η t)
end

/-- Memory through a step that leaves it alone. -/
theorem Inv.world (hi : Inv C K S η σ w) {K' : Kf} {T : Nat → Prop} (hK : K.le K') (hk : KIn T K K') (hc : Chg T w w') (hT : ∀ n, Touch η n → ¬ T n) (hkf : ∀ a v, K' a = some v → w'.cell? a = some v) : Inv C K' S η σ w' := by
  refine ⟨hkf, hi.len, fun l b hb => ?_, hi.inj, fun n hn => ⟨Nat.lt_of_lt_of_le (hi.tlt n hn).1 hc.size, (hi.tlt n hn).2⟩, hi.top⟩
  obtain ⟨h, n, room, he, hg, hok⟩ := hi.blk l b hb
  have ht : Touch η n := ⟨l, h, b.gen, room, he, hg⟩
  exact ⟨h, n, room, he, hg, hok.step hK (Hle.refl _) (hc.block n (hi.tlt n ht).1 (hT n ht)) fun hf ad v e hab => hok.free hf ad v ((hk ad v e).resolve_right (by rw [hab]; exact hT n ht)) hab⟩

theorem touch_append {n : Nat} (h : Touch (η ++ η') n) : Touch η n ∨ Touch η' n := by
  obtain ⟨l, x, g, r, e1, e2⟩ := h
  rcases Nat.lt_or_ge l η.length with hl | hl
  · rw [List.getElem?_append_left hl] at e1
    exact .inl ⟨l, x, g, r, e1, e2⟩
  · rw [List.getElem?_append_right hl] at e1
    exact .inr ⟨_, x, g, r, e1, e2⟩

/-- Two memories side by side. -/
theorem Inv.join (h1 : Inv C K S η σ w) {S1 : Nat → Prop} (h2 : Inv C K S1 η' σ' w) (hs : ∀ n, S1 n → S n) (hd : ∀ n, Touch η n → ¬ Touch η' n) : Inv C K S (η ++ η') (σ ++ shiftB σ.length σ') w := by
  have hlen := h1.len
  have split : ∀ (l : Nat) (b : Blk), (σ ++ shiftB σ.length σ')[l]? = some b → (σ[l]? = some b ∧ l < σ.length) ∨ (∃ b', σ'[l - σ.length]? = some b' ∧ b = { b' with cells := shiftL σ.length b'.cells } ∧ σ.length ≤ l) := fun l b hb => by
    rcases Nat.lt_or_ge l σ.length with hl | hl
    · rw [List.getElem?_append_left hl] at hb
      exact .inl ⟨hb, hl⟩
    · rw [List.getElem?_append_right hl, shiftB_get] at hb
      cases hb' : σ'[l - σ.length]? with
      | none => rw [hb'] at hb; cases hb
      | some b' =>
        rw [hb'] at hb
        simp only [Option.map_some, Option.some.injEq] at hb
        exact .inr ⟨b', rfl, hb.symm, hl⟩
  have hη : ∀ (l : Nat) (h : Hist), l < σ.length → (η ++ η')[l]? = some h → η[l]? = some h := fun l h hl he => by
    rwa [List.getElem?_append_left (by omega)] at he
  have hη' : ∀ (l : Nat) (h : Hist), σ.length ≤ l → (η ++ η')[l]? = some h → η'[l - σ.length]? = some h := fun l h hl he => by
    rwa [List.getElem?_append_right (by omega), hlen] at he
  refine ⟨h1.kf, by simp [h1.len, h2.len, length_shiftB], fun l b hb => ?_, fun l l' b b' h h' n r n' r' hne hb hb' he he' hg hg' => ?_, fun n hn => ?_, fun l b h hb he => ?_⟩
  · rcases split l b hb with ⟨hb, hl⟩ | ⟨b', hb', rfl, hl⟩
    · obtain ⟨h, n, room, he, hg, hok⟩ := h1.blk l b hb
      exact ⟨h, n, room, by rw [List.getElem?_append_left (by omega)]; exact he, hg, hok.step (Kf.le_refl _) (Hle.append _ _) rfl hok.free⟩
    · obtain ⟨h, n, room, he, hg, hok⟩ := h2.blk _ b' hb'
      obtain ⟨cur, fz, e1, e2, e3, e4, e5⟩ := hok.heap
      refine ⟨h, n, room, by rw [List.getElem?_append_right (by omega), hlen]; exact he, hg, hok.kind, ⟨cur, fz, e1, by simpa [length_shiftL] using e2, ?_, by simpa [length_shiftL] using e4, e5⟩, by simpa [oneL_shiftL] using hok.one, hok.still, hok.free, fun hf => ?_, fun q1 q2 => by simpa [length_shiftL] using hok.exact q1 q2⟩
      · have := e3.shift η
        rw [hlen] at this
        simpa [length_shiftL] using this
      · obtain ⟨vs, g1, g2⟩ := hok.held hf
        have := g1.shift η
        rw [hlen] at this
        exact ⟨vs, this, g2⟩
  · rcases split l b hb with ⟨hb, hl⟩ | ⟨c, hc, rfl, hl⟩
    · rcases split l' b' hb' with ⟨hb', hl'⟩ | ⟨c', hc', rfl, hl'⟩
      · exact h1.inj l l' b b' h h' n r n' r' hne hb hb' (hη _ _ hl he) (hη _ _ hl' he') hg hg'
      · intro e
        subst e
        exact hd n ⟨l, h, b.gen, r, hη _ _ hl he, hg⟩ ⟨_, h', c'.gen, r', hη' _ _ hl' he', hg'⟩
    · rcases split l' b' hb' with ⟨hb', hl'⟩ | ⟨c', hc', rfl, hl'⟩
      · intro e
        subst e
        exact hd n ⟨l', h', b'.gen, r', hη _ _ hl' he', hg'⟩ ⟨_, h, c.gen, r, hη' _ _ hl he, hg⟩
      · exact h2.inj _ _ c c' h h' n r n' r' (by omega) hc hc' (hη' _ _ hl he) (hη' _ _ hl' he') hg hg'
  · rcases touch_append hn with h | h
    · exact h1.tlt n h
    · exact ⟨(h2.tlt n h).1, hs n (h2.tlt n h).2⟩
  · rcases split l b hb with ⟨hb, hl⟩ | ⟨c, hc, rfl, hl⟩
    · exact h1.top l b h hb (hη _ _ hl he)
    · exact h2.top _ c h hc (hη' _ _ hl he)

mutual
theorem frz_low : (v : V) → {σ : Mem} → v.low 0 = true → {v' : V} → {σ' : Mem} → frz C v σ = some (v', σ') → σ' = σ ∧ ∀ K η x, Rel C K η v x → Rel C K η v' x
  | .msl l g off len e, σ, hl, v', σ', h => by simp [V.low] at hl
  | .agg cs, σ, hl, v', σ', h => by
    simp only [frz] at h
    split at h
    · rename_i cs' σ'' hc
      cases h
      obtain ⟨h1, h2⟩ := frzL_low cs (by simpa [V.low] using hl) hc
      exact ⟨h1, fun K η x hr => by cases hr with | agg _ vs hr => exact .agg _ _ (h2 _ _ _ hr)⟩
    · cases h
  | .tuple cs, σ, hl, v', σ', h => by
    simp only [frz] at h
    split at h
    · rename_i cs' σ'' hc
      cases h
      obtain ⟨h1, h2⟩ := frzL_low cs (by simpa [V.low] using hl) hc
      exact ⟨h1, fun K η x hr => by cases hr with | tuple _ vs hr => exact .tuple _ _ (h2 _ _ _ hr)⟩
    · cases h
  | .own e ys, σ, hl, v', σ', h => by simp only [frz] at h; cases h; exact ⟨rfl, fun K η x hr => hr.un⟩
  | .nils, σ, hl, v', σ', h => by simp only [frz] at h; cases h; exact ⟨rfl, fun K η x hr => by cases hr; exact .rowNil _ _⟩
  | .iface t v, σ, hl, v', σ', h => by
    simp only [frz] at h
    split at h
    · rename_i u σ'' hc
      cases h
      obtain ⟨h1, h2⟩ := frz_low v (by simpa [V.low] using hl) hc
      exact ⟨h1, fun K η x hr => by cases hr with | iface _ _ y hr => exact .iface _ _ _ (h2 _ _ _ hr)⟩
    · cases h
  | .bool _, σ, hl, v', σ', h => by simp only [frz] at h; cases h; exact ⟨rfl, fun K η x hr => hr⟩
  | .int _ _, σ, hl, v', σ', h => by simp only [frz] at h; cases h; exact ⟨rfl, fun K η x hr => hr⟩
  | .str _, σ, hl, v', σ', h => by simp only [frz] at h; cases h; exact ⟨rfl, fun K η x hr => hr⟩
  | .nilptr, σ, hl, v', σ', h => by simp only [frz] at h; cases h; exact ⟨rfl, fun K η x hr => hr⟩
  | .ptr _ _ _, σ, hl, v', σ', h => by simp only [frz] at h; cases h; exact ⟨rfl, fun K η x hr => hr⟩
  | .eptr _ _, σ, hl, v', σ', h => by simp only [frz] at h; cases h; exact ⟨rfl, fun K η x hr => hr⟩
  | .row _, σ, hl, v', σ', h => by simp only [frz] at h; cases h; exact ⟨rfl, fun K η x hr => hr⟩
  | .func _ _ _, σ, hl, v', σ', h => by simp only [frz] at h; cases h; exact ⟨rfl, fun K η x hr => hr⟩
  | .nilfn, σ, hl, v', σ', h => by simp only [frz] at h; cases h; exact ⟨rfl, fun K η x hr => hr⟩
  | .niliface, σ, hl, v', σ', h => by simp only [frz] at h; cases h; exact ⟨rfl, fun K η x hr => hr⟩
  | .junk, σ, hl, v', σ', h => by simp only [frz] at h; cases h; exact ⟨rfl, fun K η x hr => hr⟩
theorem frzL_low : (vs : List V) → {σ : Mem} → lowL 0 vs = true → {vs' : List V} → {σ' : Mem} → frzL C vs σ = some (vs', σ') → σ' = σ ∧ ∀ K η xs, RelL C K η vs xs → RelL C K η vs' xs
  | [], σ, hl, vs', σ', h => by simp only [frzL] at h; cases h; exact ⟨rfl, fun K η x hr => hr⟩
  | v :: r, σ, hl, vs', σ', h => by
    simp only [lowL, Bool.and_eq_true] at hl
    simp only [frzL] at h
    split at h
    · rename_i v1 σ1 hv
      split at h
      · rename_i r1 σ2 hr
        cases h
        obtain ⟨h1, h2⟩ := frz_low v hl.1 hv
        subst h1
        obtain ⟨h3, h4⟩ := frzL_low r hl.2 hr
        exact ⟨h3, fun K η xs hx => by cases hx with | cons _ x _ s p q => exact .cons _ _ _ _ (h2 _ _ _ p) (h4 _ _ _ q)⟩
      · cases h
    · cases h
end

end
end MI

namespace MI
open Go

/-- What is told of functions without a walk. -/
structure Told (C : Cfg) : Prop where
  ext : ∀ f args r, C.ext f args = some r → ∀ S K η σ w xs, Inv C K S η σ w → Fresh S w → GlobOK C K → RelL C K η args xs → CallsTo C f xs.toArray w (Ret C S K η w (fun n => w.heap.size ≤ n) r σ)
  extM : ∀ f args σ v σ', C.extM f args σ = some (v, σ') → ∀ S K η w xs, Inv C K S η σ w → Fresh S w → GlobOK C K → RelL C K η args xs → CallsTo C f xs.toArray w (Ret C S K η w (CallS (C.keep f) η args xs w) v σ')
  mixed : C.P.follows .mixedOrders = true
  code : ∀ f fn c, C.fn f = some fn → fn.body = some c → okCode C f c = true
  name : ∀ f fn, C.fn f = some fn → fn.name ≠ "runtime.NumGoroutine"

section
variable {C : Cfg} {S S' : Nat → Prop} {K : Kf} {η η' : List Hist} {σ σ' : Mem} {w w' : World} {fr : Fr} {xs : List Value} {a : Act} {o : Oper} {E : Env}

theorem Ret.mono {T T' : Nat → Prop} {v : V} {σ' : Mem} {x : Value} (h : Ret C S K η w T v σ' x w') (ht : ∀ n, T n → T' n) : Ret C S K η w T' v σ' x w' := by
  obtain ⟨K', η', r1, r2, r3, r4, r5, r6, r7, r8⟩ := h
  exact ⟨K', η', r1, r2.mono ht, r3, r4.mono ht, r5, r6, fun n hn => (r7 n hn).imp id (ht n), fun e ys g h1 h2 => ht g (r8 e ys g h1 h2)⟩

theorem enter_run (hS : Good C) (hT : Told C) {f : FuncId} {fn : Func} (hfn : C.fn f = some fn) (hb : fn.body.isSome = true) (args : Array Value) : (callFunc f args).run C.P w = .ok (.enter f args) w := by
  have h1 := hS.fn f fn hfn
  have h2 := hT.name f fn hfn
  have hb' : fn.body ≠ none := fun e => by rw [e] at hb; cases hb
  simp [callFunc, h1, h2, hb']

theorem own_in {v : V} {x : Value} {T : Nat → Prop} (hf : FrOK C K T η w [v] [x]) : ∀ e ys g, v = .own e ys → x.ownBlock = some g → T g := fun e ys g hv hg => by
  subst hv
  obtain ⟨k, cells, ho⟩ := hf.own 0 e ys x rfl rfl
  exact (ho.blk g hg).1

theorem callG_ok (hS : Good C) (hT : Told C) {En : FuncId → Env} (hE : ∀ f, CallOK C (En f)) (hL : ∀ f, LoopOK C (En f) f) {f : FuncId} {args : List V} {v : V} {σ' : Mem} (h : callG C (fun f c fr σ => (codeA C f c fr σ).run (En f)) f args σ = some (v, σ'))
    (hi : Inv C K S η σ w) (hF : Fresh S w) (hG : GlobOK C K) (hf : FrOK C K S η w args xs) (hown : C.keep f = false → ∀ (i : Nat) (e : TypeId) (ys : List V), args[i]? ≠ some (.own e ys)) :
    CallsTo C f xs.toArray w (Ret C S K η w (CallS (C.keep f) η args xs w) v σ') := by
  have hsub := CallS.sub (kp := C.keep f) (args := args) (ys := xs) hi hF (fun _ => hf)
  have hownT : ∀ (i : Nat) (e : TypeId) (ys : List V) (x : Value) (g : Nat), args[i]? = some (.own e ys) → xs[i]? = some x → x.ownBlock = some g → CallS (C.keep f) η args xs w g := fun i e ys x g h1 h2 h3 => by
    cases hk : C.keep f with
    | true => exact .inr (.inl ⟨rfl, i, e, ys, x, h1, h2, h3⟩)
    | false => exact absurd h1 (hown hk i e ys)
  have hFT : Fresh (CallS (C.keep f) η args xs w) w := fun n hn => .inl hn
  unfold callG at h
  split at h
  · rename_i r hr
    cases h
    exact (hT.ext f args v hr S K η _ w xs hi hF hG hf.rel).mono fun x w' hx => hx.mono fun n hn => .inl hn
  · split at h
    · rename_i r hr
      cases h
      exact hT.extM f args σ v σ' hr S K η w xs hi hF hG hf.rel
    · split at h
      · cases h
      · rename_i fn hfn
        split at h
        · rename_i hlow
          split at h
          · rename_i u σ1 hbody
            -- the callee begins with nothing
            have hi0 : Inv C K (CallS (C.keep f) η args xs w) [] [] w := ⟨hi.kf, rfl, fun l b hb => by simp at hb, fun l l' b b' h h' n r n' r' _ hb => by simp at hb, fun n hn => by obtain ⟨l, h, g, r, e, _⟩ := hn; simp at e, fun l b h hb => by simp at hb⟩
            have hf0 : FrOK C K (CallS (C.keep f) η args xs w) [] w args xs := by
              have hr := hf.rel.low 0 hlow
              rw [List.take_zero] at hr
              refine ⟨hr, fun i e ys x h1 h2 => ?_, hf.apart⟩
              obtain ⟨k, cells, ho⟩ := hf.own i e ys x h1 h2
              exact ⟨k, cells, ⟨ho.siz, ho.pos, ho.row, ho.rel, ho.each, ho.one, fun g hg => ⟨hownT i e ys x g h1 h2 hg, (ho.blk g hg).2.1, fun ht => by obtain ⟨l, h, g, r, e, _⟩ := ht; simp at e⟩⟩⟩
            obtain ⟨hb, hcalls⟩ := bodyF_ok hS hT.mixed hE hL hfn (fun c hc => hT.code f fn c hfn hc) hbody hi0 hf0 hFT hG
            refine .inr ⟨enter_run hS hT hfn hb _, Calls.mono hcalls fun e w' he => ?_⟩
            cases e with
            | returned x =>
              obtain ⟨K', η1, r1, r2, r3, r4, r5, r6⟩ := he
              have hnt : ∀ n, Touch η n → ¬ CallS (C.keep f) η args xs w n := by
                rintro n hn (hq | ⟨hk, i, e, ys, y, q1, q2, q3⟩ | ⟨hq, _⟩)
                · have := (hi.tlt n hn).1; omega
                · exact (hf.ownBlk q1 q2 q3).2.2 hn
                · rw [hlow] at hq; cases hq
              have hiw : Inv C K' S η σ w' := hi.world r1 r2 r4 hnt r5.kf
              split at h
              · rename_i hvl
                cases h
                have hrv : Rel C K' η1 v x := by cases r6.rel with | cons _ _ _ _ hh _ => exact hh
                have hrv0 := hrv.low 0 hvl
                rw [List.take_zero] at hrv0
                refine ⟨K', η, r1, r2, Hle.refl _, r4, hiw, ?_, fun n hn => .inl hn, own_in r6⟩
                refine ⟨.cons _ _ _ _ (hrv0.mono (Kf.le_refl _) (Hle.nil _)) .nil, fun i e ys y h1 h2 => ?_, r6.apart⟩
                obtain ⟨k, cells, ho⟩ := r6.own i e ys y h1 h2
                exact ⟨k, cells, ⟨ho.siz, ho.pos, ho.row, ho.rel, ho.each, ho.one, fun g hg => ⟨hsub g (ho.blk g hg).1, (ho.blk g hg).2.1, fun ht => hnt g ht (ho.blk g hg).1⟩⟩⟩
              · cases h
                have hrv : Rel C K' η1 u x := by cases r6.rel with | cons _ _ _ _ hh _ => exact hh
                have hrs := hrv.shift η
                rw [hi.len] at hrs
                refine ⟨K', η ++ η1, r1, r2, Hle.append _ _, r4, Inv.join hiw r5 hsub fun n h1 h2 => hnt n h1 (r5.tlt n h2).2, ?_, fun n hn => (touch_append hn).imp id fun h => (r5.tlt n h).2, fun e ys g hv hg => ?_⟩
                · refine ⟨.cons _ _ _ _ hrs .nil, fun i e ys y h1 h2 => ?_, fun i j e ys y e' ys' y' g hij h1 h2 h3 => ?_⟩
                  · cases i with
                    | zero =>
                      simp only [List.getElem?_cons_zero, Option.some.injEq] at h1 h2
                      have hu : u = .own e ys := by cases u <;> simp [shift] at h1 <;> simp [h1]
                      obtain ⟨k, cells, ho⟩ := r6.own 0 e ys y (by simp [hu]) (by simp [h2])
                      exact ⟨k, cells, ⟨ho.siz, ho.pos, ho.row, ho.rel, ho.each, ho.one, fun g hg => ⟨hsub g (ho.blk g hg).1, (ho.blk g hg).2.1, fun ht => (touch_append ht).elim (fun h => hnt g h (ho.blk g hg).1) (ho.blk g hg).2.2⟩⟩⟩
                    | succ i => simp at h1
                  · cases i with
                    | zero => cases j with
                      | zero => exact absurd rfl hij
                      | succ j => simp at h3
                    | succ i => simp at h1
                · have hu : u = .own e ys := by cases u <;> simp [shift] at hv <;> simp [hv]
                  exact own_in r6 e ys g hu hg
            | _ => exact he.elim
          · cases h
        · rename_i hlow
          split at h
          · rename_i u σ1 hbody
            cases h
            have hi1 : Inv C K (CallS (C.keep f) η args xs w) η σ w := hi.monoS fun n hn => .inr (.inr ⟨hlow, hn⟩)
            have hf1 : FrOK C K (CallS (C.keep f) η args xs w) η w args xs := hf.monoS hownT
            obtain ⟨hb, hcalls⟩ := bodyF_ok hS hT.mixed hE hL hfn (fun c hc => hT.code f fn c hfn hc) hbody hi1 hf1 hFT hG
            refine .inr ⟨enter_run hS hT hfn hb _, Calls.mono hcalls fun e w' he => ?_⟩
            cases e with
            | returned x =>
              obtain ⟨K', η1, r1, r2, r3, r4, r5, r6⟩ := he
              have hiS : Inv C K' S η1 σ1 w' := r5.monoS fun n hn => hsub n (r5.tlt n hn).2
              have hfS : FrOK C K' S η1 w' [v] [x] := r6.monoS fun i e ys y g h1 h2 h3 => by
                obtain ⟨k, cells, ho⟩ := r6.own i e ys y h1 h2
                exact hsub g (ho.blk g h3).1
              change Ret C S K η w _ v (gc σ.length v σ1) x w'
              unfold gc
              split
              · rename_i hgc
                rw [Bool.and_eq_true] at hgc
                have hrv : Rel C K' η1 v x := by cases hfS.rel with | cons _ _ _ _ hh _ => exact hh
                refine ⟨K', η1.take σ.length, r1, r2, r3.take _ (by rw [hi.len]; exact Nat.le_refl _), r4, hiS.take hgc.2, ?_, fun n hn => .inr (r5.tlt n hn.take).2, own_in r6⟩
                refine ⟨.cons _ _ _ _ (hrv.low _ hgc.1) .nil, fun i e ys y h1 h2 => ?_, hfS.apart⟩
                obtain ⟨k, cells, ho⟩ := hfS.own i e ys y h1 h2
                exact ⟨k, cells, ho.take _⟩
              · exact ⟨K', η1, r1, r2, r3, r4, hiS, hfS, fun n hn => .inr (r5.tlt n hn).2, own_in r6⟩
            | _ => exact he.elim
          · cases h

theorem callS_sub_frz {args args' : List V} (hn : ∀ (i : Nat) (e : TypeId) (ys : List V), args'[i]? ≠ some (.own e ys)) (hl : lowL 0 args = true → lowL 0 args' = true) : ∀ n, CallS false η args' xs w n → CallS false η args xs w n := by
  rintro n (h | ⟨h, _⟩ | ⟨h1, h2⟩)
  · exact .inl h
  · cases h
  · refine .inr (.inr ⟨?_, h2⟩)
    cases hq : lowL 0 args with
    | false => rfl
    | true => rw [hl hq] at h1; cases h1

mutual
theorem frz_stays (n : Nat) : (v : V) → {σ : Mem} → v.low n = true → {v' : V} → {σ' : Mem} → frz C v σ = some (v', σ') → v'.low n = true
  | .msl l g off len e, σ, hl, v', σ', h => by
    simp only [frz] at h
    split at h
    · split at h
      · cases h; rfl
      · cases h
    · cases h
  | .agg cs, σ, hl, v', σ', h => by
    simp only [frz] at h
    split at h
    · rename_i cs' σ'' hc
      cases h
      simpa [V.low] using frzL_stays n cs (by simpa [V.low] using hl) hc
    · cases h
  | .tuple cs, σ, hl, v', σ', h => by
    simp only [frz] at h
    split at h
    · rename_i cs' σ'' hc
      cases h
      simpa [V.low] using frzL_stays n cs (by simpa [V.low] using hl) hc
    · cases h
  | .own e ys, σ, hl, v', σ', h => by simp only [frz] at h; cases h; rfl
  | .nils, σ, hl, v', σ', h => by simp only [frz] at h; cases h; rfl
  | .iface t v, σ, hl, v', σ', h => by
    simp only [frz] at h
    split at h
    · rename_i u σ'' hc
      cases h
      simpa [V.low] using frz_stays n v (by simpa [V.low] using hl) hc
    · cases h
  | .bool _, σ, hl, v', σ', h => by simp only [frz] at h; cases h; exact hl
  | .int _ _, σ, hl, v', σ', h => by simp only [frz] at h; cases h; exact hl
  | .str _, σ, hl, v', σ', h => by simp only [frz] at h; cases h; exact hl
  | .nilptr, σ, hl, v', σ', h => by simp only [frz] at h; cases h; exact hl
  | .ptr _ _ _, σ, hl, v', σ', h => by simp only [frz] at h; cases h; exact hl
  | .eptr _ _, σ, hl, v', σ', h => by simp only [frz] at h; cases h; exact hl
  | .row _, σ, hl, v', σ', h => by simp only [frz] at h; cases h; exact hl
  | .func _ _ _, σ, hl, v', σ', h => by simp only [frz] at h; cases h; exact hl
  | .nilfn, σ, hl, v', σ', h => by simp only [frz] at h; cases h; exact hl
  | .niliface, σ, hl, v', σ', h => by simp only [frz] at h; cases h; exact hl
  | .junk, σ, hl, v', σ', h => by simp only [frz] at h; cases h; exact hl
theorem frzL_stays (n : Nat) : (vs : List V) → {σ : Mem} → lowL n vs = true → {vs' : List V} → {σ' : Mem} → frzL C vs σ = some (vs', σ') → lowL n vs' = true
  | [], σ, hl, vs', σ', h => by simp only [frzL] at h; cases h; rfl
  | v :: r, σ, hl, vs', σ', h => by
    simp only [lowL, Bool.and_eq_true] at hl
    simp only [frzL] at h
    split at h
    · rename_i v1 σ1 hv
      split at h
      · rename_i r1 σ2 hr
        cases h
        simp [lowL, frz_stays n v hl.1 hv, frzL_stays n r hl.2 hr]
      · cases h
    · cases h
end

theorem callF_ok (hS : Good C) (hT : Told C) {En : FuncId → Env} (hE : ∀ f, CallOK C (En f)) (hL : ∀ f, LoopOK C (En f) f) (E : Env) (hcall : E.call = callF C (fun f c fr σ => (codeA C f c fr σ).run (En f))) : CallOK C E := by
  intro g args σ v σ' h K S η w xs hi hF hG hr hk
  rw [hcall] at h
  unfold callF at h
  cases hkp : C.keep g with
  | true =>
    rw [hkp] at h
    have := callG_ok hS hT hE hL h hi hF hG (hk hkp) (fun e => by rw [hkp] at e; cases e)
    rwa [hkp] at this
  | false =>
    rw [hkp] at h
    simp only at h
    split at h
    · rename_i args1 σ1 hfrz
      obtain ⟨K1, hkn, hr1, hn1⟩ := frzL_ok args hi hr hfrz
      have hrest : ∀ {K1}, RelL C K1 η args1 xs → FrOK C K1 S η w args1 xs := fun hr => FrOK.rest hr hn1
      have hlowk : lowL 0 args = true → lowL 0 args1 = true := fun hl => frzL_stays 0 args hl hfrz
      cases hlow : lowL 0 args with
      | true =>
        obtain ⟨e1, e2⟩ := frzL_low args hlow hfrz
        subst e1
        have := callG_ok hS hT hE hL h hi hF hG (hrest (e2 _ _ _ hr)) (fun _ => hn1)
        rw [hkp] at this
        exact this.mono fun x w' hx => hx.mono (callS_sub_frz hn1 hlowk)
      | false =>
        have := callG_ok hS hT hE hL h hkn.inv hF (hG.mono hkn.kle) (hrest hr1) (fun _ => hn1)
        rw [hkp] at this
        refine this.mono fun x w' hx => ?_
        obtain ⟨K', η', r1, r2, r3, r4, r5, r6, r7, r8⟩ := hx
        have hs := callS_sub_frz (η := η) (xs := xs) (w := w) hn1 hlowk
        refine ⟨K', η', Kf.le_trans hkn.kle r1, (hkn.kin.mono fun n hn => .inr (.inr ⟨hlow, hn⟩)).trans (r2.mono hs), r3, r4.mono hs, r5, r6, fun n hn => (r7 n hn).imp id (hs n), fun e ys g h1 h2 => hs g (r8 e ys g h1 h2)⟩
    · cases h

/-- The interpreter tells the truth. -/
theorem env_ok (hS : Good C) (hT : Told C) : ∀ n, (∀ f, CallOK C (envN C n f)) ∧ ∀ f, LoopOK C (envN C n f) f
  | 0 => ⟨fun f g args σ v σ' h => by simp [envN] at h, fun f b fr σ out fr' σ' h => by simp [envN] at h⟩
  | n + 1 => by
    obtain ⟨hE, hL⟩ := env_ok hS hT n
    refine ⟨fun f => callF_ok hS hT hE hL _ rfl, fun f b fr σ out fr' σ' h hok K S η w a hi hf hF hG => ?_⟩
    exact loopN_ok hS hT.mixed (hE f) (hL f) hok h hi hf hF hG

end
end MI

namespace MI
open Go

/-! ### Tables by number -/
inductive Tr (α : Type) where
  | nil
  | node (k : Nat) (v : α) (l r : Tr α)

def Tr.get {α : Type} : Tr α → Nat → Option α
  | .nil, _ => none
  | .node k v l r, i => match Nat.beq i k with
    | true => some v
    | false => match Nat.blt i k with
      | true => l.get i
      | false => r.get i

def Tr.All {α : Type} (p : Nat → α → Prop) : Tr α → Prop
  | .nil => True
  | .node k v l r => p k v ∧ l.All p ∧ r.All p

theorem Tr.all_get {α : Type} {p : Nat → α → Prop} : ∀ {t : Tr α}, t.All p → ∀ {i : Nat} {v : α}, t.get i = some v → p i v
  | .nil, _, i, v, h => by cases h
  | .node k u l r, ha, i, v, h => by
    simp only [Tr.get] at h
    split at h
    · rename_i hb
      cases h
      have : i = k := Nat.eq_of_beq_eq_true hb
      exact this ▸ ha.1
    · split at h
      · exact Tr.all_get ha.2.1 h
      · exact Tr.all_get ha.2.2 h

/-- All of a table by one Bool. -/
def Tr.allB {α : Type} (p : Nat → α → Bool) : Tr α → Bool
  | .nil => true
  | .node k v l r => p k v && (l.allB p && r.allB p)

theorem Tr.allB_get {α : Type} {p : Nat → α → Bool} {t : Tr α} (h : t.allB p = true) : ∀ {i : Nat} {v : α}, t.get i = some v → p i v = true := fun {i v} hg => by
  have : t.All fun i v => p i v = true := by
    clear hg
    induction t with
    | nil => trivial
    | node k v l r ihl ihr =>
      simp only [Tr.allB, Bool.and_eq_true] at h
      exact ⟨h.1, ihl h.2.1, ihr h.2.2⟩
  exact Tr.all_get this hg

/-- A seat's tables. -/
structure Tabs where
  P : Program
  fnT : Tr Func
  undT : Tr TypeDesc
  sizT : Tr Nat
  zeroT : Tr V
  eqT : Tr Unit
  ordT : Tr (Tr Plan)
  globT : Tr V
  imm : TypeId → Bool
  keep : FuncId → Bool
  mild : FuncId → Bool
  mutB : FuncId → Bool
  memF : FuncId → Bool
  ext : FuncId → List V → Option V
  extM : FuncId → List V → Mem → Option (V × Mem)

def Tabs.cfg (T : Tabs) : Cfg where
  P := T.P
  fn := T.fnT.get
  und := T.undT.get
  siz := T.sizT.get
  zero := T.zeroT.get
  glob := T.globT.get
  imm := T.imm
  eqOK := fun t => match T.eqT.get t with
    | some _ => true
    | none => false
  keep := T.keep
  mild := T.mild
  ord := fun f id => match T.ordT.get f with
    | some t => match t.get id with
      | some p => p
      | none => .stop
    | none => .stop
  mutB := T.mutB
  memF := T.memF
  ext := T.ext
  extM := T.extM

def sizB (P : Program) (t : Nat) (n : Nat) : Bool :=
  match P.info? t with
  | some i => Nat.beq i.size n && Nat.ble i.bytes 32768
  | none => false

def zeroB (P : Program) (t : Nat) (z : V) : Bool :=
  match P.info? t with
  | some i => match i.zero with
    | some zr => V.same z (cv zr) && (oneL z.cells && Nat.beq z.cells.length i.size)
    | none => false
  | none => false

def stoodB (P : Program) (t : Nat) (d : TypeDesc) : Bool :=
  match d with
  | .struct _ => !P.stoodInHeld t
  | _ => true

/-- Tables that agree with the program. -/
structure Tabs.OK (T : Tabs) : Prop where
  fn : T.fnT.All fun f fn => T.P.funcs[f]? = some fn
  und : T.undT.All fun t d => T.P.underlying t = some d
  siz : T.sizT.allB (sizB T.P) = true
  zero : T.zeroT.allB (zeroB T.P) = true
  eq : T.eqT.allB (fun t _ => !T.P.eqGuardType T.P.depth t) = true
  stood : T.undT.allB (stoodB T.P) = true

theorem Tabs.good {T : Tabs} (h : T.OK) : Good T.cfg where
  fn := fun f fn hf => Tr.all_get h.fn hf
  und := fun t d hd => Tr.all_get h.und hd
  siz := fun t n hn => by
    have := Tr.allB_get h.siz hn
    unfold sizB at this
    split at this
    · rename_i i hi
      simp only [Bool.and_eq_true, Nat.beq_eq, Nat.ble_eq] at this
      exact ⟨i, hi, this.1, this.2⟩
    · cases this
  zero := fun t z hz => by
    have := Tr.allB_get h.zero hz
    unfold zeroB at this
    split at this
    · rename_i i hi
      split at this
      · rename_i zr hzr
        simp only [Bool.and_eq_true, Nat.beq_eq] at this
        exact ⟨i, zr, hi, hzr, V.same_eq this.1, this.2.1, this.2.2⟩
      · cases this
    · cases this
  eqOK := fun t ht => by
    have ht' : (match T.eqT.get t with | some _ => true | none => false) = true := ht
    cases hg : T.eqT.get t with
    | none => rw [hg] at ht'; cases ht'
    | some u =>
      have := Tr.allB_get h.eq hg
      have h2 : T.P.eqGuardType T.P.depth t = false := by simpa using this
      exact h2
  stood := fun t fs ht => by
    have := Tr.allB_get h.stood ht
    have h2 : T.P.stoodInHeld t = false := by simpa [stoodB] using this
    exact h2

end MI

namespace MI
open Go

/-! ### More fuel never turns an answer -/

/-- One environment answers all that another one answers. -/
structure Env.le (E E' : Env) : Prop where
  call : ∀ g args σ r, E.call g args σ = some r → E'.call g args σ = some r
  loop : ∀ b fr σ r, E.loop b fr σ = some r → E'.loop b fr σ = some r

theorem Env.le_refl (E : Env) : E.le E := ⟨fun _ _ _ _ h => h, fun _ _ _ _ h => h⟩
theorem Env.le_trans {A B D : Env} (h : A.le B) (h' : B.le D) : A.le D := ⟨fun g args σ r e => h'.call g args σ r (h.call g args σ r e), fun b fr σ r e => h'.loop b fr σ r (h.loop b fr σ r e)⟩

theorem Ask.run_mono {α : Type} {E E' : Env} (hE : E.le E') : ∀ (a : Ask α) {r : α}, a.run E = some r → a.run E' = some r
  | .ret a, r, h => by simpa [Ask.run] using h
  | .fail, r, h => by simp [Ask.run] at h
  | .cond b k, r, h => by
    simp only [Ask.run] at h ⊢
    exact Ask.run_mono hE (k b) h
  | .chk b k, r, h => by
    simp only [Ask.run] at h ⊢
    cases b with
    | true => exact Ask.run_mono hE k h
    | false => cases h
  | .elem xs i k, r, h => by
    simp only [Ask.run] at h ⊢
    split at h
    · exact Ask.run_mono hE _ h
    · cases h
  | .call g args σ k, r, h => by
    simp only [Ask.run] at h ⊢
    split at h
    · rename_i v σ' hc
      rw [hE.call _ _ _ _ hc]
      exact Ask.run_mono hE _ h
    · cases h
  | .loop b fr σ k, r, h => by
    simp only [Ask.run] at h ⊢
    split at h
    · rename_i o fr' σ' hc
      rw [hE.loop _ _ _ _ hc]
      exact Ask.run_mono hE _ h
    · cases h

theorem Ask.run_bindW {α β : Type} (E : Env) : ∀ (a : Ask α) (f : α → Ask β), (a.bind f).run E = match a.run E with | some x => (f x).run E | none => none
  | .ret a, f => rfl
  | .fail, f => rfl
  | .cond b k, f => by simp only [Ask.bind, Ask.run]; exact Ask.run_bindW E (k b) f
  | .chk b k, f => by
    simp only [Ask.bind, Ask.run]
    cases b with
    | true => exact Ask.run_bindW E k f
    | false => rfl
  | .elem xs i k, f => by
    simp only [Ask.bind, Ask.run]
    split
    · exact Ask.run_bindW E _ f
    · rfl
  | .call g args σ k, f => by
    simp only [Ask.bind, Ask.run]
    split
    · exact Ask.run_bindW E _ f
    · rfl
  | .loop b fr σ k, f => by
    simp only [Ask.bind, Ask.run]
    split
    · exact Ask.run_bindW E _ f
    · rfl

def Exec.le (E E' : Exec) : Prop := ∀ f c fr σ r, E f c fr σ = some r → E' f c fr σ = some r

section
variable {C : Cfg}

theorem enterF_mono {E E' : Exec} (hE : Exec.le E E') {f : FuncId} {fn : Func} {args : List V} {σ : Mem} {r : V × Mem} (h : enterF C E f fn args σ = some r) : enterF C E' f fn args σ = some r := by
  unfold enterF at h ⊢
  split at h
  · cases h
  · rename_i c hc
    split at h
    · cases h
    · rename_i o fr' σ' hne hr
      rw [hE _ _ _ _ _ hr]
      cases o with
      | exit id => exact (hne id rfl).elim
      | normal => exact h
      | ret => exact h
    · cases h

theorem bodyF_mono {E E' : Exec} (hE : Exec.le E E') {f : FuncId} {fn : Func} {args : List V} {σ : Mem} {r : V × Mem} (h : bodyF C E f fn args σ = some r) : bodyF C E' f fn args σ = some r := by
  unfold bodyF at h ⊢
  split at h
  · rename_i v σ' hr
    rw [enterF_mono hE hr]
    exact h
  · cases h

theorem callG_mono {E E' : Exec} (hE : Exec.le E E') {f : FuncId} {args : List V} {σ : Mem} {r : V × Mem} (h : callG C E f args σ = some r) : callG C E' f args σ = some r := by
  unfold callG at h ⊢
  cases he : C.ext f args with
  | some x => rw [he] at h; exact h
  | none =>
    rw [he] at h
    simp only at h ⊢
    cases hm : C.extM f args σ with
    | some x => rw [hm] at h; exact h
    | none =>
      rw [hm] at h
      simp only at h ⊢
      cases hf : C.fn f with
      | none => rw [hf] at h; cases h
      | some fn =>
        rw [hf] at h
        simp only at h ⊢
        cases hl : lowL 0 args with
        | true =>
          rw [hl] at h
          simp only at h ⊢
          split at h
          · rename_i v σ' hr
            rw [bodyF_mono hE hr]
            exact h
          · cases h
        | false =>
          rw [hl] at h
          simp only at h ⊢
          split at h
          · rename_i v σ' hr
            rw [bodyF_mono hE hr]
            exact h
          · cases h

theorem callF_mono {E E' : Exec} (hE : Exec.le E E') {f : FuncId} {args : List V} {σ : Mem} {r : V × Mem} (h : callF C E f args σ = some r) : callF C E' f args σ = some r := by
  unfold callF at h ⊢
  cases hk : C.keep f with
  | true => rw [hk] at h; exact callG_mono hE h
  | false =>
    rw [hk] at h
    simp only at h ⊢
    split at h
    · rename_i a s hz
      exact callG_mono hE h
    · cases h

theorem loopN_mono {E E' : Env} (hE : E.le E') {f : FuncId} {b : Code} : ∀ {n m : Nat}, n ≤ m → ∀ {fr : Fr} {σ : Mem} {r : Res}, loopN C E f b n fr σ = some r → loopN C E' f b m fr σ = some r
  | 0, _, _, fr, σ, r, h => by simp [loopN] at h
  | n + 1, 0, hn, _, _, _, _ => by omega
  | n + 1, m + 1, hn, fr, σ, r, h => by
    simp only [loopN] at h ⊢
    split at h
    · rename_i fr' σ' hr
      rw [Ask.run_mono hE _ hr]
      simp only
      cases hm : C.memF f with
      | true => rw [hm] at h; exact loopN_mono hE (by omega) h
      | false => rw [hm] at h; exact loopN_mono hE (by omega) h
    · rename_i r' hne hr
      rw [Ask.run_mono hE _ hr]
      obtain ⟨o, fr', σ'⟩ := r'
      cases o with
      | normal => exact (hne fr' σ' rfl).elim
      | exit id => exact h
      | ret => exact h
    · cases h

theorem envN_succ : ∀ (n : Nat) (f : FuncId), (envN C n f).le (envN C (n + 1) f)
  | 0, f => ⟨fun g args σ r h => by simp [envN] at h, fun b fr σ r h => by simp [envN] at h⟩
  | n + 1, f => ⟨fun g args σ r h => callF_mono (fun f c fr σ r h => Ask.run_mono (envN_succ n f) _ h) h, fun b fr σ r h => loopN_mono (envN_succ n f) (by omega) h⟩

theorem envN_mono {n m : Nat} (h : n ≤ m) (f : FuncId) : (envN C n f).le (envN C m f) := by
  induction m with
  | zero =>
    have : n = 0 := by omega
    exact this ▸ Env.le_refl _
  | succ m ih =>
    rcases Nat.lt_or_ge n (m + 1) with hl | hg
    · exact Env.le_trans (ih (by omega)) (envN_succ m f)
    · have : n = m + 1 := by omega
      exact this ▸ Env.le_refl _

end

/-! ### What an evaluation comes to -/

/-- It ends, and so. -/
structure Runs (C : Cfg) (f : FuncId) {α : Type} (a : Ask α) (Q : α → Prop) : Prop where
  ex : ∃ n r, a.run (envN C n f) = some r ∧ Q r

/-- A call ends, and so. -/
structure CallR (C : Cfg) (g : FuncId) (args : List V) (σ : Mem) (Q : V → Mem → Prop) : Prop where
  ex : ∃ n v σ', (envN C n 0).call g args σ = some (v, σ') ∧ Q v σ'

/-- A loop ends, and so. -/
structure LoopR (C : Cfg) (f : FuncId) (b : Code) (fr : Fr) (σ : Mem) (Q : Out → Fr → Mem → Prop) : Prop where
  ex : ∃ n o fr' σ', (envN C n f).loop b fr σ = some (o, fr', σ') ∧ Q o fr' σ'

/-- One step. -/
def Step (C : Cfg) (f : FuncId) {α : Type} (a : Ask α) (Q : α → Prop) : Prop :=
  match a with
  | .ret x => Q x
  | .fail => False
  | .cond b k => (b = true → Runs C f (k true) Q) ∧ (b = false → Runs C f (k false) Q)
  | .chk b k => b = true ∧ Runs C f k Q
  | .elem xs i k => ∃ v, xs[i]? = some v ∧ Runs C f (k v) Q
  | .call g args σ k => CallR C g args σ fun v σ' => Runs C f (k v σ') Q
  | .loop b fr σ k => LoopR C f b fr σ fun o fr' σ' => Runs C f (k o fr' σ') Q

section
variable {C : Cfg} {f : FuncId} {α : Type} {a : Ask α} {Q Q' : α → Prop}

theorem call_any {n : Nat} {f f' : FuncId} : (envN C n f).call = (envN C n f').call := by cases n <;> rfl

theorem Runs.mono (h : Runs C f a Q) (hq : ∀ x, Q x → Q' x) : Runs C f a Q' := by
  obtain ⟨n, r, h1, h2⟩ := h
  exact ⟨n, r, h1, hq r h2⟩
theorem CallR.mono {g : FuncId} {args : List V} {σ : Mem} {Q Q' : V → Mem → Prop} (h : CallR C g args σ Q) (hq : ∀ v σ', Q v σ' → Q' v σ') : CallR C g args σ Q' := by
  obtain ⟨n, v, σ', h1, h2⟩ := h
  exact ⟨n, v, σ', h1, hq _ _ h2⟩
theorem LoopR.mono {b : Code} {fr : Fr} {σ : Mem} {Q Q' : Out → Fr → Mem → Prop} (h : LoopR C f b fr σ Q) (hq : ∀ o fr' σ', Q o fr' σ' → Q' o fr' σ') : LoopR C f b fr σ Q' := by
  obtain ⟨n, o, fr', σ', h1, h2⟩ := h
  exact ⟨n, o, fr', σ', h1, hq _ _ _ h2⟩

theorem Runs.step (h : Step C f a Q) : Runs C f a Q := by
  cases a with
  | ret x => exact ⟨0, x, rfl, h⟩
  | fail => cases h
  | cond b k =>
    cases b with
    | true =>
      obtain ⟨n, r, h1, h2⟩ := h.1 rfl
      exact ⟨n, r, h1, h2⟩
    | false =>
      obtain ⟨n, r, h1, h2⟩ := h.2 rfl
      exact ⟨n, r, h1, h2⟩
  | chk b k =>
    obtain ⟨rfl, n, r, h1, h2⟩ := h
    exact ⟨n, r, h1, h2⟩
  | elem xs i k =>
    obtain ⟨v, hv, n, r, h1, h2⟩ := h
    exact ⟨n, r, by simp only [Ask.run, hv]; exact h1, h2⟩
  | call g args σ k =>
    obtain ⟨n, v, σ', h1, m, r, h2, h3⟩ := h
    refine ⟨max n m, r, ?_, h3⟩
    rw [call_any (f' := f)] at h1
    simp only [Ask.run, (envN_mono (Nat.le_max_left n m) f).call _ _ _ _ h1]
    exact Ask.run_mono (envN_mono (Nat.le_max_right n m) f) _ h2
  | loop b fr σ k =>
    obtain ⟨n, o, fr', σ', h1, m, r, h2, h3⟩ := h
    refine ⟨max n m, r, ?_, h3⟩
    simp only [Ask.run, (envN_mono (Nat.le_max_left n m) f).loop _ _ _ _ h1]
    exact Ask.run_mono (envN_mono (Nat.le_max_right n m) f) _ h2

theorem Runs.bind {β : Type} {k : α → Ask β} {Q : β → Prop} (h : Runs C f a fun x => Runs C f (k x) Q) : Runs C f (a.bind k) Q := by
  obtain ⟨n, r, h1, m, s, h2, h3⟩ := h
  refine ⟨max n m, s, ?_, h3⟩
  rw [Ask.run_bindW, Ask.run_mono (envN_mono (Nat.le_max_left n m) f) _ h1]
  exact Ask.run_mono (envN_mono (Nat.le_max_right n m) f) _ h2

/-- What comes of a round. -/
def Round (C : Cfg) (f : FuncId) (b : Code) (σ : Mem) (Q : Out → Fr → Mem → Prop) (r : Res) : Prop :=
  match r with
  | (.normal, fr', σ') => match C.memF f with
    | true => LoopR C f b fr' σ' Q
    | false => LoopR C f b (sweep σ.length fr' σ').1 (sweep σ.length fr' σ').2 Q
  | (o, fr', σ') => Q o fr' σ'

theorem LoopR.round {b : Code} {fr : Fr} {σ : Mem} {Q : Out → Fr → Mem → Prop} (h : Runs C f (codeA C f b fr σ) (Round C f b σ Q)) : LoopR C f b fr σ Q := by
  obtain ⟨n, ⟨o, fr', σ'⟩, h1, h2⟩ := h
  have key : ∀ (fr2 : Fr) (σ2 : Mem), LoopR C f b fr2 σ2 Q → (∀ (E : Env) (k : Nat), (codeA C f b fr σ).run E = some (o, fr', σ') → loopN C E f b (k + 1) fr σ = loopN C E f b k fr2 σ2) → LoopR C f b fr σ Q := fun fr2 σ2 h hk => by
    obtain ⟨m, o2, fr3, σ3, h3, h4⟩ := h
    cases m with
    | zero => simp [envN] at h3
    | succ m =>
      refine ⟨max n m + 2, o2, fr3, σ3, ?_, h4⟩
      change loopN C (envN C (max n m + 1) f) f b (max n m + 1) fr σ = _
      rw [hk _ _ (Ask.run_mono (envN_mono (by omega) f) _ h1)]
      exact loopN_mono (envN_mono (by omega) f) (by omega) h3
  cases o with
  | normal =>
    simp only [Round] at h2
    cases hm : C.memF f with
    | true =>
      rw [hm] at h2
      exact key _ _ h2 fun E k hr => by simp only [loopN, hr, hm]
    | false =>
      rw [hm] at h2
      exact key _ _ h2 fun E k hr => by simp only [loopN, hr, hm]
  | exit id =>
    refine ⟨n + 2, _, _, _, ?_, h2⟩
    change loopN C (envN C (n + 1) f) f b (n + 1) fr σ = _
    simp only [loopN, Ask.run_mono (envN_mono (Nat.le_succ n) f) _ h1]
  | ret =>
    refine ⟨n + 2, _, _, _, ?_, h2⟩
    change loopN C (envN C (n + 1) f) f b (n + 1) fr σ = _
    simp only [loopN, Ask.run_mono (envN_mono (Nat.le_succ n) f) _ h1]

/-- What comes of a round, by an invariant that counts down. -/
def RoundI (C : Cfg) (f : FuncId) (I : Nat → Fr → Mem → Prop) (n : Nat) (σ : Mem) (Q : Out → Fr → Mem → Prop) (r : Res) : Prop :=
  match r with
  | (.normal, fr', σ') => match C.memF f with
    | true => ∃ m, m < n ∧ I m fr' σ'
    | false => ∃ m, m < n ∧ I m (sweep σ.length fr' σ').1 (sweep σ.length fr' σ').2
  | (o, fr', σ') => Q o fr' σ'

theorem LoopR.inv {b : Code} {Q : Out → Fr → Mem → Prop} (I : Nat → Fr → Mem → Prop) (step : ∀ n fr σ, I n fr σ → Runs C f (codeA C f b fr σ) (RoundI C f I n σ Q)) : ∀ {n : Nat} {fr : Fr} {σ : Mem}, I n fr σ → LoopR C f b fr σ Q := by
  intro n
  induction n using Nat.strongRecOn with
  | _ n ih =>
    intro fr σ hI
    refine LoopR.round ((step n fr σ hI).mono fun r hr => ?_)
    obtain ⟨o, fr', σ'⟩ := r
    cases o with
    | normal =>
      simp only [RoundI] at hr
      simp only [Round]
      cases hm : C.memF f with
      | true =>
        rw [hm] at hr
        obtain ⟨m, h1, h2⟩ := hr
        exact ih m h1 h2
      | false =>
        rw [hm] at hr
        obtain ⟨m, h1, h2⟩ := hr
        exact ih m h1 h2
    | exit id => exact hr
    | ret => exact hr

/-- A body's end. -/
def backF (C : Cfg) (f : FuncId) (fn : Func) (r : Res) : Option (V × Mem) :=
  match r with
  | (.exit _, _, _) => none
  | (_, fr', σ') => match resultsV C fn fr' σ' with
    | some v => match C.keep f with
      | true => some (v, σ')
      | false => frz C v σ'
    | none => none

/-- What the caller has of it, where the callee was handed no way into memory. -/
def backLow (σ : Mem) (r : V × Mem) : V × Mem :=
  match r.1.low 0 with
  | true => (r.1, σ)
  | false => (shift σ.length r.1, σ ++ shiftB σ.length r.2)

def backHigh (σ : Mem) (r : V × Mem) : V × Mem := (r.1, gc σ.length r.1 r.2)

/-- The frame in which a body begins. -/
def startF (fn : Func) (args : List V) : Fr := args ++ List.replicate (fn.ntmps - args.length) undef'

theorem bodyF_back {E : Exec} {f : FuncId} {fn : Func} {c : Code} (hc : fn.body = some c) {args : List V} {σ : Mem} {r : Res} {y : V × Mem} (h : E f c (startF fn args) σ = some r) (hb : backF C f fn r = some y) : bodyF C E f fn args σ = some y := by
  obtain ⟨o, fr', σ'⟩ := r
  unfold bodyF enterF
  rw [hc]
  simp only
  rw [show args ++ List.replicate (fn.ntmps - args.length) undef' = startF fn args from rfl, h]
  cases o with
  | exit id => simp [backF] at hb
  | normal =>
    simp only [backF] at hb ⊢
    split at hb
    · rename_i v hv
      simp only [hv]
      exact hb
    · cases hb
  | ret =>
    simp only [backF] at hb ⊢
    split at hb
    · rename_i v hv
      simp only [hv]
      exact hb
    · cases hb

/-- What a call of a function with a body comes to. -/
structure Enter (C : Cfg) (g : FuncId) (args : List V) (σ : Mem) (fn : Func) (c : Code) (args' : List V) (σ' : Mem) (low : Bool) : Prop where
  frz : (match C.keep g with | true => some (args, σ) | false => frzL C args σ) = some (args', σ')
  ext : C.ext g args' = none
  extM : C.extM g args' σ' = none
  func : C.fn g = some fn
  body : fn.body = some c
  low : lowL 0 args' = low

theorem CallR.enter {g : FuncId} {args : List V} {σ : Mem} {fn : Func} {c : Code} {args' : List V} {σ' : Mem} {Q : V → Mem → Prop} (h : Enter C g args σ fn c args' σ' true)
    (hr : Runs C g (codeA C g c (startF fn args') []) fun r => ∃ y, backF C g fn r = some y ∧ Q (backLow σ' y).1 (backLow σ' y).2) : CallR C g args σ Q := by
  obtain ⟨n, r, h1, y, h2, h3⟩ := hr
  refine ⟨n + 1, _, _, ?_, h3⟩
  change callF C (fun f c fr σ => (codeA C f c fr σ).run (envN C n f)) g args σ = _
  have hg : callG C (fun f c fr σ => (codeA C f c fr σ).run (envN C n f)) g args' σ' = some ((backLow σ' y).1, (backLow σ' y).2) := by
    unfold callG
    simp only [h.ext, h.extM, h.func, h.low]
    rw [bodyF_back h.body h1 h2]
    unfold backLow
    simp only
    cases hl : y.1.low 0 <;> simp
  have hz := h.frz
  unfold callF
  cases hk : C.keep g with
  | true =>
    rw [hk] at hz
    cases hz
    exact hg
  | false =>
    rw [hk] at hz
    simp only at hz ⊢
    rw [hz]
    exact hg

theorem CallR.enterM {g : FuncId} {args : List V} {σ : Mem} {fn : Func} {c : Code} {args' : List V} {σ' : Mem} {Q : V → Mem → Prop} (h : Enter C g args σ fn c args' σ' false)
    (hr : Runs C g (codeA C g c (startF fn args') σ') fun r => ∃ y, backF C g fn r = some y ∧ Q (backHigh σ' y).1 (backHigh σ' y).2) : CallR C g args σ Q := by
  obtain ⟨n, r, h1, y, h2, h3⟩ := hr
  refine ⟨n + 1, _, _, ?_, h3⟩
  change callF C (fun f c fr σ => (codeA C f c fr σ).run (envN C n f)) g args σ = _
  have hg : callG C (fun f c fr σ => (codeA C f c fr σ).run (envN C n f)) g args' σ' = some ((backHigh σ' y).1, (backHigh σ' y).2) := by
    unfold callG
    simp only [h.ext, h.extM, h.func, h.low]
    rw [bodyF_back h.body h1 h2]
    rfl
  have hz := h.frz
  unfold callF
  cases hk : C.keep g with
  | true =>
    rw [hk] at hz
    cases hz
    exact hg
  | false =>
    rw [hk] at hz
    simp only at hz ⊢
    rw [hz]
    exact hg

/-- A function that is told, not walked. -/
theorem CallR.told {g : FuncId} {args args' : List V} {σ σ' : Mem} {r : V} {Q : V → Mem → Prop} (hz : (match C.keep g with | true => some (args, σ) | false => frzL C args σ) = some (args', σ')) (h : C.ext g args' = some r) (hq : Q r σ') : CallR C g args σ Q := by
  refine ⟨1, r, σ', ?_, hq⟩
  change callF C (fun f c fr σ => (codeA C f c fr σ).run (envN C 0 f)) g args σ = _
  unfold callF
  cases hk : C.keep g with
  | true =>
    rw [hk] at hz
    cases hz
    simp only [callG, h]
  | false =>
    rw [hk] at hz
    simp only at hz ⊢
    rw [hz]
    simp only [callG, h]

end

/-- A call gives just that. -/
def CallTo (C : Cfg) (g : FuncId) (args : List V) (σ : Mem) (v : V) (σ' : Mem) : Prop := CallR C g args σ fun x s => x = v ∧ s = σ'

theorem CallTo.use {C : Cfg} {g : FuncId} {args : List V} {σ : Mem} {v : V} {σ' : Mem} {Q : V → Mem → Prop} (h : CallTo C g args σ v σ') (hq : Q v σ') : CallR C g args σ Q :=
  CallR.mono h fun x s hx => by obtain ⟨rfl, rfl⟩ := hx; exact hq

end MI

namespace MI
open Go
/-! The operations, each by itself: smaller texts to unfold. -/
set_option linter.unusedVariables false
variable (C : Cfg)

noncomputable def getW (l : List V) : Nat → V :=
  List.rec (motive := fun _ => Nat → V) (fun _ => undef') (fun x _ ih n => Nat.rec (motive := fun _ => V) x (fun m _ => ih m) n) l
theorem getW_eq (l : List V) : ∀ n, getW l n = l.getD n undef' := by
  induction l with
  | nil => intro n; rfl
  | cons x r ih =>
    intro n
    cases n with
    | zero => rfl
    | succ n => exact (ih n).trans (by simp)
noncomputable def evalW (fr : Fr) (x : Operand) : V :=
  match x with
  | .tmp t => getW fr t
  | .const v => cv v
  | .global g => match C.glob g with
    | some v => .eptr v 0
    | none => .junk
  | .func f => .func (.func f) [] []
theorem evalW_eq : evalW C = evalV C := by
  funext fr x
  cases x with
  | tmp t => simp only [evalW, evalV, getW_eq]
  | const v => rfl
  | global g => simp only [evalW, evalV]; cases C.glob g <;> rfl
  | func f => rfl
noncomputable def evalLW (fr : Fr) (l : List Operand) : List V :=
  List.rec (motive := fun _ => List V) [] (fun x _ ih => evalW C fr x :: ih) l
theorem evalLW_eq : evalLW C = evalL C := by
  funext fr l
  induction l with
  | nil => rfl
  | cons x r ih => exact (show evalLW C fr (x :: r) = evalW C fr x :: evalLW C fr r from rfl).trans (by rw [ih, evalW_eq]; rfl)
noncomputable def evalPW (fr : Fr) (l : List (Nat × Operand)) : List (Nat × V) :=
  List.rec (motive := fun _ => List (Nat × V)) [] (fun p _ ih => (p.1, (evalW C fr p.2).un) :: ih) l
theorem evalPW_eq : evalPW C = evalP C := by
  funext fr l
  induction l with
  | nil => rfl
  | cons x r ih => exact (show evalPW C fr (x :: r) = (x.1, (evalW C fr x.2).un) :: evalPW C fr r from rfl).trans (by rw [ih, evalW_eq]; rfl)
noncomputable def lenW (l : List V) : Nat := List.rec (motive := fun _ => Nat) 0 (fun _ _ ih => ih + 1) l
theorem lenW_eq (l : List V) : lenW l = l.length := by
  induction l with
  | nil => rfl
  | cons x r ih => exact (show lenW (x :: r) = lenW r + 1 from rfl).trans (by rw [ih]; rfl)
noncomputable def takeW (l : List V) : Nat → List V := List.rec (motive := fun _ => Nat → List V) (fun _ => []) (fun x _ ih n => Nat.rec (motive := fun _ => List V) [] (fun m _ => x :: ih m) n) l
theorem takeW_eq (l : List V) : ∀ n, takeW l n = l.take n := by
  induction l with
  | nil => intro n; simp; rfl
  | cons x r ih =>
    intro n
    cases n with
    | zero => rfl
    | succ n => exact (show takeW (x :: r) (n + 1) = x :: takeW r n from rfl).trans (by rw [ih]; rfl)
noncomputable def dropW (l : List V) : Nat → List V := List.rec (motive := fun _ => Nat → List V) (fun _ => []) (fun x r ih n => Nat.rec (motive := fun _ => List V) (x :: r) (fun m _ => ih m) n) l
theorem dropW_eq (l : List V) : ∀ n, dropW l n = l.drop n := by
  induction l with
  | nil => intro n; simp; rfl
  | cons x r ih =>
    intro n
    cases n with
    | zero => rfl
    | succ n => exact (show dropW (x :: r) (n + 1) = dropW r n from rfl).trans (by rw [ih]; rfl)
/-- Cells with others laid over them. -/
noncomputable def overW (l : List V) : Nat → List V → List V := List.rec (motive := fun _ => Nat → List V → List V) (fun _ _ => []) (fun x r ih n cs => Nat.rec (motive := fun _ => List V)
  (match cs with
    | [] => x :: r
    | v :: s => v :: ih 0 s) (fun m _ => x :: ih m cs) n) l
theorem setRange_succ (x : V) : ∀ (cs r : List V) (n : Nat), setRange (x :: r) (n + 1) cs = x :: setRange r n cs
  | [], r, n => rfl
  | v :: s, r, n => by simp only [setRange, List.set_cons_succ]; exact setRange_succ x s _ _
theorem setRange_nil : ∀ (cs : List V) (n : Nat), setRange [] n cs = []
  | [], n => rfl
  | v :: s, n => by simp only [setRange, List.set_nil]; exact setRange_nil s _
theorem overW_eq (l : List V) : ∀ (n : Nat) (cs : List V), overW l n cs = setRange l n cs := by
  induction l with
  | nil => intro n cs; rw [setRange_nil]; rfl
  | cons x r ih =>
    intro n cs
    cases n with
    | succ n => rw [setRange_succ]; exact (show overW (x :: r) (n + 1) cs = x :: overW r n cs from rfl).trans (by rw [ih])
    | zero =>
      cases cs with
      | nil => rfl
      | cons v s =>
        refine (show overW (x :: r) 0 (v :: s) = v :: overW r 0 s from rfl).trans ?_
        rw [ih]
        simp only [setRange, List.set_cons_zero]
        rw [setRange_succ]
noncomputable def partW (t : TypeId) (cs : List V) (off : Nat) : Option V :=
  match isAggT C t with
  | some true => match C.siz t with
    | some n => match Nat.ble (off + n) (lenW cs) with
      | true => some (.agg (takeW (dropW cs off) n))
      | false => none
    | none => none
  | some false => cs[off]?
  | none => none
theorem partW_eq : partW C = partV C := by
  funext t cs off
  unfold partW partV
  cases isAggT C t with
  | none => rfl
  | some b =>
    cases b with
    | false => rfl
    | true =>
      cases C.siz t with
      | none => rfl
      | some n =>
        simp only
        rw [lenW_eq, takeW_eq, dropW_eq]
        cases hb : Nat.ble (off + n) cs.length with
        | true => rw [if_pos (Nat.le_of_ble_eq_true hb)]
        | false => rw [if_neg (fun h => by rw [Nat.ble_eq_true_of_le h] at hb; cases hb)]
noncomputable def loadW (t : TypeId) (σ : Mem) (v : V) : Option V :=
  match v with
  | .ptr l g off => match getBlk σ l g with
    | some b => partW C t b.cells off
    | none => none
  | .eptr x off => partW C t x.cells off
  | _ => none
theorem loadW_eq : loadW C = loadV C := by
  funext t σ v
  unfold loadW loadV
  rw [partW_eq]
  cases v <;> rfl
noncomputable def storeW (t : TypeId) (σ : Mem) (v : V) (p : V) : Option Mem :=
  match p with
  | .ptr l g off => match getBlk σ l g, C.siz t with
    | some b, some n =>
      let cs := v.cells
      if !b.frozen && oneL cs && cs.length = n && off + n ≤ b.cells.length then
        some (σ.set l { b with cells := overW b.cells off cs })
      else none
    | _, _ => none
  | _ => none
theorem storeW_eq : storeW C = storeV C := by
  funext t σ v p
  unfold storeW storeV
  cases p with
  | ptr l g off =>
    simp only [overW_eq]
    rfl
  | _ => rfl
noncomputable def unTmpW (fr : Fr) (x : Operand) : Fr :=
  match x with
  | .tmp t => fr.set t (getW fr t).un
  | _ => fr
theorem unTmpW_eq : unTmpW = unTmp := by
  funext fr x
  cases x <;> simp only [unTmpW, unTmp, getW_eq]


noncomputable def opV_move (f : FuncId) (ops : List Oper) (o : Oper) (fr : Fr) (σ : Mem) (x : Operand) : Ask Got :=
   
    match o.dst with
    | some d => if takesL C d ops then .ret (evalW C fr x, unTmpW fr x, σ) else .ret ((evalW C fr x).un, fr, σ)
    | none => .ret ((evalW C fr x).un, fr, σ)

noncomputable def opV_assign (f : FuncId) (ops : List Oper) (o : Oper) (fr : Fr) (σ : Mem) (x : Operand) : Ask Got :=
    match C.memF f with
    | true => .ret (evalW C fr x, unTmpW fr x, σ)
    | false => .ret (slotV C o.type (evalW C fr x), unTmpW fr x, σ)

noncomputable def opV_pick (f : FuncId) (ops : List Oper) (o : Oper) (fr : Fr) (σ : Mem) (c : Operand) (a : Operand) (b : Operand) : Ask Got :=
    match evalW C fr c with
    | .bool t => .cond t fun t => match t with
      | true => .ret ((evalW C fr a).un, fr, σ)
      | false => .ret ((evalW C fr b).un, fr, σ)
    | _ => .fail

noncomputable def opV_alloc (f : FuncId) (ops : List Oper) (o : Oper) (fr : Fr) (σ : Mem) (e : TypeId) : Ask Got :=
    match C.zero e with
    | some z => .ret (.ptr σ.length 0 0, fr, σ ++ [⟨z.cells, e, 0, false, false, 0⟩])
    | none => .fail

noncomputable def opV_box (f : FuncId) (ops : List Oper) (o : Oper) (fr : Fr) (σ : Mem) (e : TypeId) (x : Operand) : Ask Got :=
   
    if C.imm e then
      (if (evalW C fr x).unD.low 0 && oneL (evalW C fr x).unD.cells then .ret (.eptr (evalW C fr x).unD 0, fr, σ) else .fail)
    else
      if oneL (evalW C fr x).un.cells then .ret (.ptr σ.length 0 0, fr, σ ++ [⟨(evalW C fr x).un.cells, e, 0, false, false, 0⟩]) else .fail

noncomputable def opV_build (f : FuncId) (ops : List Oper) (o : Oper) (fr : Fr) (σ : Mem) (t : TypeId) (parts : Array (Nat × Operand)) : Ask Got :=
   
    match C.zero t, C.und t with
    | some z, some (.struct fs) => match placesV C fs.toList with
      | some ps => match layV (fun i => ps[i]?) z.cells (evalPW C fr parts.toList) with
        | some cs => .ret (.agg cs, fr, σ)
        | none => .fail
      | none => .fail
    | some z, some (.array _ e) => match C.siz e with
      | some k => match layV (fun i => some (i * k, k)) z.cells (evalPW C fr parts.toList) with
        | some cs => .ret (.agg cs, fr, σ)
        | none => .fail
      | none => .fail
    | _, _ => .fail

noncomputable def opV_buildSlice (f : FuncId) (ops : List Oper) (o : Oper) (fr : Fr) (σ : Mem) (t : TypeId) (len : Nat) (parts : Array (Nat × Operand)) : Ask Got :=
   
    match elemT C t with
    | none => .fail
    | some e => match C.zero e, isAggT C e, C.siz e with
      | some z, some agg, some k =>
        if z.cells.length = k ∧ 0 < k ∧ len * k ≤ 16777216 ∧ (agg = true ∨ k = 1) then
          match layV (fun i => some (i * k, k)) (repL z.cells len) (evalPW C fr parts.toList) with
          | some cs =>
            if C.mutB f then .ret ((newRow σ e cs len false).1, fr, (newRow σ e cs len false).2)
            else if lowL 0 cs then .ret (.own e (elems agg k len (unDL cs)), fr, σ)
            else if len = 0 then .fail else .ret ((newRow σ e cs len true).1, fr, (newRow σ e cs len true).2)
          | none => .fail
        else .fail
      | _, _, _ => .fail

noncomputable def opV_load (f : FuncId) (ops : List Oper) (o : Oper) (fr : Fr) (σ : Mem) (t : TypeId) (x : Operand) : Ask Got :=
    got fr σ (loadW C t σ (evalW C fr x))

noncomputable def opV_store (f : FuncId) (ops : List Oper) (o : Oper) (fr : Fr) (σ : Mem) (t : TypeId) (a : Operand) (x : Operand) : Ask Got :=
    match storeW C t σ (evalW C fr x).un (evalW C fr a) with
    | some σ' => .ret (undef', fr, σ')
    | none => .fail

noncomputable def opV_nilCheck (f : FuncId) (ops : List Oper) (o : Oper) (fr : Fr) (σ : Mem) (x : Operand) : Ask Got :=
    match evalW C fr x with
    | .ptr l g o => .ret (.ptr l g o, fr, σ)
    | .eptr x o => .ret (.eptr x o, fr, σ)
    | .func (.func a) b c => .ret (.func (.func a) b c, fr, σ)
    | _ => .fail

noncomputable def opV_binOp (f : FuncId) (ops : List Oper) (o : Oper) (fr : Fr) (σ : Mem) (op : BinOp) (t : TypeId) (x : Operand) (y : Operand) : Ask Got :=
    gotA fr σ (binV C op t (isConst x || isConst y) (evalW C fr x) (evalW C fr y))

noncomputable def opV_unOp (f : FuncId) (ops : List Oper) (o : Oper) (fr : Fr) (σ : Mem) (op : UnOp) (x : Operand) : Ask Got :=
    gotA fr σ (unV op (evalW C fr x))

noncomputable def opV_convert (f : FuncId) (ops : List Oper) (o : Oper) (fr : Fr) (σ : Mem) (src : TypeId) (dst : TypeId) (x : Operand) : Ask Got :=
   
    match elemT C src, (evalW C fr x).un with
    | some e, .msl l g 0 len e' =>
      if src = dst then
        match getBlk σ l g with
        | some b => if isByteT C e && !b.grow then .ret (.msl l g 0 len e', fr, σ) else .fail
        | none => .fail
      else (convV C f src dst (.msl l g 0 len e') σ).bind fun p => .ret (p.1, fr, p.2)
    | _, v => (convV C f src dst v σ).bind fun p => .ret (p.1, fr, p.2)

noncomputable def opV_makeInterface (f : FuncId) (ops : List Oper) (o : Oper) (fr : Fr) (σ : Mem) (t : TypeId) (x : Operand) : Ask Got :=
    match C.und t with
    | some (.interface _) => .fail
    | some _ => .ret (.iface t (evalW C fr x).unD, fr, σ)
    | none => .fail

noncomputable def opV_makeFunc (f : FuncId) (ops : List Oper) (o : Oper) (fr : Fr) (σ : Mem) (fn : Fn) (first : Array Operand) (captured : Array Operand) : Ask Got :=
    .ret (.func fn (unDL (evalLW C fr first.toList)) (unDL (evalLW C fr captured.toList)), fr, σ)

noncomputable def opV_makeSlice (f : FuncId) (ops : List Oper) (o : Oper) (fr : Fr) (σ : Mem) (t : TypeId) (l : Operand) (c : Operand) : Ask Got :=
    match evalW C fr l, evalW C fr c, elemT C t with
    | .int .i64 l, .int .i64 c, some e => match C.zero e, C.siz e with
      | some z, some k =>
        if z.cells.length = k ∧ 0 < k then
          .chk (decide (0 ≤ l ∧ l ≤ c ∧ c ≤ (mostRow : Int))) (.cond (decide (l = 0)) fun b => match b with
            | true => .ret (.own e [], fr, σ)
            | false => .ret ((newRow σ e (repL z.cells l.toNat) l.toNat true).1, fr, (newRow σ e (repL z.cells l.toNat) l.toNat true).2))
        else .fail
      | _, _ => .fail
    | _, _, _ => .fail

noncomputable def opV_slice (f : FuncId) (ops : List Oper) (o : Oper) (fr : Fr) (σ : Mem) (t : TypeId) (x : Operand) (lo : Option Operand) (hi : Option Operand) (mx : Option Operand) : Ask Got :=
    match mx with
    | none => gotA fr σ (sliceV C t σ (evalW C fr x) (lo.map (evalW C fr)) (hi.map (evalW C fr)))
    | some _ => .fail

noncomputable def opV_fieldAddr (f : FuncId) (ops : List Oper) (o : Oper) (fr : Fr) (σ : Mem) (s : TypeId) (x : Operand) (i : Nat) : Ask Got :=
    match fieldAt C s i with
    | some (off, t) => match C.siz t with
      | some (_ + 1) => match evalW C fr x with
        | .ptr l g o => .ret (.ptr l g (o + off), fr, σ)
        | .eptr v o => .ret (.eptr v (o + off), fr, σ)
        | _ => .fail
      | _ => .fail
    | none => .fail

noncomputable def opV_field (f : FuncId) (ops : List Oper) (o : Oper) (fr : Fr) (σ : Mem) (s : TypeId) (x : Operand) (i : Nat) : Ask Got :=
    match fieldAt C s i with
    | some (off, t) => match evalW C fr x with
      | .agg cs => match partV C t cs off with
        | some v => .ret (v.un, fr, σ)
        | none => .fail
      | _ => .fail
    | none => .fail

noncomputable def opV_indexAddr (f : FuncId) (ops : List Oper) (o : Oper) (fr : Fr) (σ : Mem) (t : TypeId) (x : Operand) (i : Operand) : Ask Got :=
    gotA fr σ (indexAddrV C t (evalW C fr x) (evalW C fr i))

noncomputable def opV_index (f : FuncId) (ops : List Oper) (o : Oper) (fr : Fr) (σ : Mem) (t : TypeId) (x : Operand) (i : Operand) : Ask Got :=
    gotA fr σ (indexV C t (evalW C fr x) (evalW C fr i))

noncomputable def opV_extract (f : FuncId) (ops : List Oper) (o : Oper) (fr : Fr) (σ : Mem) (x : Operand) (i : Nat) : Ask Got :=
    match evalW C fr x with
    | .tuple vs => match vs[i]? with
      | some v => .ret (v.un, fr, σ)
      | none => .fail
    | _ => .fail

noncomputable def opV_typeAssert (f : FuncId) (ops : List Oper) (o : Oper) (fr : Fr) (σ : Mem) (x : Operand) (asserted : TypeId) (commaOk : Bool) : Ask Got :=
    match evalW C fr x, C.und asserted with
    | .iface _ _, some (.interface _) => .fail
    | .iface t v, some _ =>
      if t = asserted then .ret (if commaOk then .tuple [v.un, .bool true] else v.un, fr, σ)
      else if commaOk then (match C.zero asserted with | some z => .ret (.tuple [z, .bool false], fr, σ) | none => .fail) else .fail
    | .niliface, some _ => if commaOk then (match C.zero asserted with | some z => .ret (.tuple [z, .bool false], fr, σ) | none => .fail) else .fail
    | _, _ => .fail

noncomputable def opC_len (f : FuncId) (ops : List Oper) (o : Oper) (fr : Fr) (σ : Mem) (c : Call) : Ask Got :=
    match c.args.toList, c.argTypes.toList with
      | [x], [t] => match lenV C t (evalW C fr x) with
        | some n => .ret (.int .i64 n, fr, σ)
        | none => .fail
      | _, _ => .fail

noncomputable def opC_append (f : FuncId) (ops : List Oper) (o : Oper) (fr : Fr) (σ : Mem) (c : Call) : Ask Got :=
    match c.args.toList, c.argTypes.toList with
      | [x, y], [t, t'] => match C.und t' with
        | some (.int _) => .fail
        | some _ => (appendV C t (evalW C fr x) (evalW C fr y) σ).bind fun p => .ret (p.1, unTmpW fr x, p.2)
        | none => .fail
      | _, _ => .fail

noncomputable def opC_min (f : FuncId) (ops : List Oper) (o : Oper) (fr : Fr) (σ : Mem) (c : Call) : Ask Got :=
    match evalLW C fr c.args.toList with
      | [.int k a, .int _ b] => .ret (.int k (if b < a then b else a), fr, σ)
      | _ => .fail

noncomputable def opC_max (f : FuncId) (ops : List Oper) (o : Oper) (fr : Fr) (σ : Mem) (c : Call) : Ask Got :=
    match evalLW C fr c.args.toList with
      | [.int k a, .int _ b] => .ret (.int k (if b > a then b else a), fr, σ)
      | _ => .fail

noncomputable def opC_unsafeSliceData (f : FuncId) (ops : List Oper) (o : Oper) (fr : Fr) (σ : Mem) (c : Call) : Ask Got :=
    match c.args.toList with
      | [x] => match evalW C fr x with
        | .nils => .ret (.nilptr, fr, σ)
        | .msl l g 0 (_ + 1) e => if isByteT C e then .ret (.ptr l g 0, fr, σ) else .fail
        | _ => .fail
      | _ => .fail

noncomputable def opC_unsafeString (f : FuncId) (ops : List Oper) (o : Oper) (fr : Fr) (σ : Mem) (c : Call) : Ask Got :=
    match c.args.toList with
      | [x, y] => match evalW C fr x, evalW C fr y with
        | .nilptr, .int .i64 n => match c.argTypes.toList with
          | [_, _] => .chk (n == 0) (.ret (.str [], fr, σ))
          | _ => .fail
        | .ptr l g 0, .int .i64 n => match getBlk σ l g, c.argTypes.toList with
          | some b, [pt, _] =>
            match C.und pt with
            | some (.pointer e) =>
              if e = b.ty && isByteT C b.ty && b.grow && decide (0 < b.cells.length) && decide (b.cells.length ≤ mostRow) && okBytes b.cells then
                match bytesOf b.cells with
                | some s => .chk (n == (b.cells.length : Int)) (.ret (.str s, fr, σ.set l { b with frozen := true }))
                | none => .fail
              else .fail
            | _ => .fail
          | _, _ => .fail
        | _, _ => .fail
      | _ => .fail

noncomputable def opC_value (f : FuncId) (ops : List Oper) (o : Oper) (fr : Fr) (σ : Mem) (c : Call) (g : Operand) : Ask Got :=
    match evalW C fr g with
      | .func (.func g) first captured => match C.keep g with
        | true => match first, captured, c.args.toList with
          | [], [], x :: r => .call g (evalW C fr x :: unL (evalLW C fr r)) σ fun v σ' => .ret (v, unTmpW fr x, σ')
          | _, _, _ => .fail
        | false => .call g (first ++ evalLW C fr c.args.toList ++ captured) σ fun v σ' => .ret (v, fr, σ')
      | _ => .fail

noncomputable def opV_call (f : FuncId) (ops : List Oper) (o : Oper) (fr : Fr) (σ : Mem) (c : Call) : Ask Got :=
  match c.callee with
  | .builtin .len => opC_len C f ops o fr σ c
  | .builtin .append => opC_append C f ops o fr σ c
  | .builtin .min => opC_min C f ops o fr σ c
  | .builtin .max => opC_max C f ops o fr σ c
  | .builtin .unsafeSliceData => opC_unsafeSliceData C f ops o fr σ c
  | .builtin .unsafeString => opC_unsafeString C f ops o fr σ c
  | .builtin _ => .fail
  | .value g => opC_value C f ops o fr σ c g
  | .invoke _ _ => .fail

noncomputable def opW (f : FuncId) (ops : List Oper) (o : Oper) (fr : Fr) (σ : Mem) : Ask Got :=
  match o.op with
  | .move x => opV_move C f ops o fr σ x
  | .assign x => opV_assign C f ops o fr σ x
  | .pick c a b => opV_pick C f ops o fr σ c a b
  | .alloc e => opV_alloc C f ops o fr σ e
  | .box e x => opV_box C f ops o fr σ e x
  | .build t parts => opV_build C f ops o fr σ t parts
  | .buildSlice t len parts => opV_buildSlice C f ops o fr σ t len parts
  | .load t x => opV_load C f ops o fr σ t x
  | .store t a x => opV_store C f ops o fr σ t a x
  | .nilCheck x => opV_nilCheck C f ops o fr σ x
  | .binOp op t x y _ => opV_binOp C f ops o fr σ op t x y
  | .unOp op _ x => opV_unOp C f ops o fr σ op x
  | .convert src dst x => opV_convert C f ops o fr σ src dst x
  | .makeInterface t x => opV_makeInterface C f ops o fr σ t x
  | .makeFunc fn first captured => opV_makeFunc C f ops o fr σ fn first captured
  | .makeSlice t l c => opV_makeSlice C f ops o fr σ t l c
  | .slice t x lo hi mx => opV_slice C f ops o fr σ t x lo hi mx
  | .fieldAddr s x i => opV_fieldAddr C f ops o fr σ s x i
  | .field s x i => opV_field C f ops o fr σ s x i
  | .indexAddr t x i => opV_indexAddr C f ops o fr σ t x i
  | .index t x i => opV_index C f ops o fr σ t x i
  | .extract x i => opV_extract C f ops o fr σ x i
  | .typeAssert x _ asserted commaOk => opV_typeAssert C f ops o fr σ x asserted commaOk
  | .call c => opV_call C f ops o fr σ c
  | _ => .fail

theorem opW_eq (f : FuncId) (ops : List Oper) (o : Oper) (fr : Fr) (σ : Mem) : opW C f ops o fr σ = opV C f ops o fr σ := by
  have e1 := evalW_eq C
  have e2 := evalLW_eq C
  have e3 := evalPW_eq C
  unfold opW opV
  cases o.op with
  | call c =>
    simp only [opV_call]
    cases c.callee with
    | builtin b => cases b <;> first | rfl | (simp only [opV_move, opV_assign, opV_pick, opV_alloc, opV_box, opV_build, opV_buildSlice, opV_load, opV_store, opV_nilCheck, opV_binOp, opV_unOp, opV_convert, opV_makeInterface, opV_makeFunc, opV_makeSlice, opV_slice, opV_fieldAddr, opV_field, opV_indexAddr, opV_index, opV_extract, opV_typeAssert, opC_len, opC_append, opC_min, opC_max, opC_unsafeSliceData, opC_unsafeString, opC_value, e1, e2, e3, unTmpW_eq, loadW_eq, storeW_eq]; try rfl)
    | value g => simp only [opV_move, opV_assign, opV_pick, opV_alloc, opV_box, opV_build, opV_buildSlice, opV_load, opV_store, opV_nilCheck, opV_binOp, opV_unOp, opV_convert, opV_makeInterface, opV_makeFunc, opV_makeSlice, opV_slice, opV_fieldAddr, opV_field, opV_indexAddr, opV_index, opV_extract, opV_typeAssert, opC_len, opC_append, opC_min, opC_max, opC_unsafeSliceData, opC_unsafeString, opC_value, e1, e2, e3, unTmpW_eq, loadW_eq, storeW_eq]; try rfl
    | invoke r m => rfl
  | _ => first | rfl | (simp only [opV_move, opV_assign, opV_pick, opV_alloc, opV_box, opV_build, opV_buildSlice, opV_load, opV_store, opV_nilCheck, opV_binOp, opV_unOp, opV_convert, opV_makeInterface, opV_makeFunc, opV_makeSlice, opV_slice, opV_fieldAddr, opV_field, opV_indexAddr, opV_index, opV_extract, opV_typeAssert, opC_len, opC_append, opC_min, opC_max, opC_unsafeSliceData, opC_unsafeString, opC_value, e1, e2, e3, unTmpW_eq, loadW_eq, storeW_eq]; try rfl)
end MI

namespace MI
open Go

/-! ### The interpreter in the form in which a symbolic run goes fast -/

/- By recursors, not by equations: so that the elaborator and the kernel unfold them alike. -/
noncomputable def forceS {β : Type} (l : List V) : (List V → β) → β :=
  List.rec (motive := fun _ => (List V → β) → β) (fun k => k []) (fun x _ ih k => ih fun r' => k (x :: r')) l
theorem forceS_eq {β : Type} (l : List V) : ∀ (k : List V → β), forceS l k = k l := by
  induction l with
  | nil => exact fun _ => rfl
  | cons x r ih => exact fun k => ih fun r' => k (x :: r')

noncomputable def setF {β : Type} (l : List V) : Nat → V → (List V → β) → β :=
  List.rec (motive := fun _ => Nat → V → (List V → β) → β) (fun _ _ k => k []) (fun x r ih n v k => match n with
    | 0 => k (v :: r)
    | n + 1 => ih n v fun r' => k (x :: r')) l
theorem setF_eq {β : Type} (l : List V) : ∀ (n : Nat) (v : V) (k : List V → β), setF l n v k = k (l.set n v) := by
  induction l with
  | nil => intro n v k; simp; rfl
  | cons x r ih =>
    intro n v k
    cases n with
    | zero => rfl
    | succ n => exact ih n v fun r' => k (x :: r')

noncomputable def putF {β : Type} (fr : Fr) (dst : Option Tmp) (v : V) (k : Fr → β) : β :=
  match dst with
  | some d => setF fr d v k
  | none => k fr
theorem putF_eq {β : Type} (fr : Fr) (dst : Option Tmp) (v : V) (k : Fr → β) : putF fr dst v k = k (putV fr dst v) := by
  cases dst with
  | none => rfl
  | some d => exact setF_eq _ _ _ _

/-- How much of a value is reckoned ahead: nothing; its head; all of it (closed runs). -/
inductive Zm where
  | lazy
  | head
  | deep

/-- A value's head. -/
noncomputable def headV {β : Type} (v : V) (k : V → β) : β :=
  match v with
    | .bool b => k (.bool b)
    | .int i n => k (.int i n)
    | .str s => k (.str s)
    | .nilptr => k .nilptr
    | .ptr l g off => k (.ptr l g off)
    | .eptr x off => k (.eptr x off)
    | .row xs => k (.row xs)
    | .own e xs => k (.own e xs)
    | .nils => k .nils
    | .msl l g off len e => k (.msl l g off len e)
    | .func fn a b => k (.func fn a b)
    | .nilfn => k .nilfn
    | .iface t v => k (.iface t v)
    | .niliface => k .niliface
    | .agg cs => forceS cs fun cs => k (.agg cs)
    | .tuple vs => forceS vs fun vs => k (.tuple vs)
    | .junk => k .junk
theorem headV_eq {β : Type} (v : V) (k : V → β) : headV v k = k v := by
  cases v with
  | agg cs => exact forceS_eq _ _
  | tuple cs => exact forceS_eq _ _
  | _ => rfl

noncomputable def headsV {β : Type} (l : List V) : (List V → β) → β :=
  List.rec (motive := fun _ => (List V → β) → β) (fun k => k []) (fun x _ ih k => headV x fun x => ih fun r => k (x :: r)) l
theorem headsV_eq {β : Type} (l : List V) : ∀ (k : List V → β), headsV l k = k l := by
  induction l with
  | nil => exact fun _ => rfl
  | cons x r ih =>
    intro k
    refine (show headsV (x :: r) k = headV x fun x => headsV r fun r => k (x :: r) from rfl).trans ?_
    rw [headV_eq, ih]

def nfN {β : Type} (n : Nat) (k : Nat → β) : β :=
  match n with
  | 0 => k 0
  | m + 1 => k (m + 1)
theorem nfN_eq {β : Type} (n : Nat) (k : Nat → β) : nfN n k = k n := by cases n <;> rfl
def nfI {β : Type} (n : Int) (k : Int → β) : β :=
  match n with
  | .ofNat m => nfN m fun m => k (.ofNat m)
  | .negSucc m => nfN m fun m => k (.negSucc m)
theorem nfI_eq {β : Type} (n : Int) (k : Int → β) : nfI n k = k n := by cases n <;> simp [nfI, nfN_eq]
def nfK {β : Type} (i : IntKind) (k : IntKind → β) : β :=
  match i with
  | .i8 => k .i8 | .i16 => k .i16 | .i32 => k .i32 | .i64 => k .i64 | .u8 => k .u8 | .u16 => k .u16 | .u32 => k .u32 | .u64 => k .u64
theorem nfK_eq {β : Type} (i : IntKind) (k : IntKind → β) : nfK i k = k i := by cases i <;> rfl
def nfS {β : Type} : List UInt8 → (List UInt8 → β) → β
  | [], k => k []
  | u :: r, k => nfN u.toNat fun n => nfS r fun r => k (UInt8.ofNat n :: r)
theorem nfS_eq {β : Type} : ∀ (s : List UInt8) (k : List UInt8 → β), nfS s k = k s
  | [], k => rfl
  | u :: r, k => by
    simp only [nfS]
    rw [nfN_eq, nfS_eq r]
    simp

noncomputable def nfV {β : Type} (v : V) : (V → β) → β :=
  V.rec (motive_1 := fun _ => (V → β) → β) (motive_2 := fun _ => (List V → β) → β) (fun b k => match b with
      | true => k (.bool true)
      | false => k (.bool false))
    (fun i n k => nfK i fun i => nfI n fun n => k (.int i n)) (fun s k => nfS s fun s => k (.str s)) (fun k => k .nilptr)
    (fun l g off k => nfN l fun l => nfN g fun g => nfN off fun off => k (.ptr l g off)) (fun _ off ih k => ih fun x => nfN off fun off => k (.eptr x off))
    (fun _ ih k => ih fun xs => k (.row xs)) (fun e _ ih k => nfN e fun e => ih fun xs => k (.own e xs)) (fun k => k .nils)
    (fun l g off len e k => nfN l fun l => nfN g fun g => nfN off fun off => nfN len fun len => nfN e fun e => k (.msl l g off len e))
    (fun fn _ _ iha ihb k => iha fun a => ihb fun b => k (.func fn a b)) (fun k => k .nilfn) (fun t _ ih k => nfN t fun t => ih fun v => k (.iface t v)) (fun k => k .niliface)
    (fun _ ih k => ih fun cs => k (.agg cs)) (fun _ ih k => ih fun vs => k (.tuple vs)) (fun k => k .junk) (fun k => k []) (fun _ _ ihv ihr k => ihv fun v => ihr fun r => k (v :: r)) v
noncomputable def nfL {β : Type} (l : List V) : (List V → β) → β :=
  V.rec_1 (motive_1 := fun _ => (V → β) → β) (motive_2 := fun _ => (List V → β) → β) (fun b k => match b with
      | true => k (.bool true)
      | false => k (.bool false))
    (fun i n k => nfK i fun i => nfI n fun n => k (.int i n)) (fun s k => nfS s fun s => k (.str s)) (fun k => k .nilptr)
    (fun l g off k => nfN l fun l => nfN g fun g => nfN off fun off => k (.ptr l g off)) (fun _ off ih k => ih fun x => nfN off fun off => k (.eptr x off))
    (fun _ ih k => ih fun xs => k (.row xs)) (fun e _ ih k => nfN e fun e => ih fun xs => k (.own e xs)) (fun k => k .nils)
    (fun l g off len e k => nfN l fun l => nfN g fun g => nfN off fun off => nfN len fun len => nfN e fun e => k (.msl l g off len e))
    (fun fn _ _ iha ihb k => iha fun a => ihb fun b => k (.func fn a b)) (fun k => k .nilfn) (fun t _ ih k => nfN t fun t => ih fun v => k (.iface t v)) (fun k => k .niliface)
    (fun _ ih k => ih fun cs => k (.agg cs)) (fun _ ih k => ih fun vs => k (.tuple vs)) (fun k => k .junk) (fun k => k []) (fun _ _ ihv ihr k => ihv fun v => ihr fun r => k (v :: r)) l
theorem nf_eq {β : Type} : (∀ (v : V) (k : V → β), nfV v k = k v) ∧ ∀ (l : List V) (k : List V → β), nfL l k = k l := by
  have key : ∀ v : V, (∀ k : V → β, nfV v k = k v) := fun v => by
    refine V.rec (motive_1 := fun v => ∀ k : V → β, nfV v k = k v) (motive_2 := fun l => ∀ k : List V → β, nfL l k = k l) ?_ ?_ ?_ ?_ ?_ ?_ ?_ ?_ ?_ ?_ ?_ ?_ ?_ ?_ ?_ ?_ ?_ ?_ ?_ v
    · intro b k; cases b <;> rfl
    · intro i n k
      refine (show nfV (.int i n) k = nfK i fun i => nfI n fun n => k (.int i n) from rfl).trans ?_
      rw [nfK_eq, nfI_eq]
    · intro s k; exact nfS_eq _ _
    · intro k; rfl
    · intro l g off k
      refine (show nfV (.ptr l g off) k = nfN l fun l => nfN g fun g => nfN off fun off => k (.ptr l g off) from rfl).trans ?_
      rw [nfN_eq, nfN_eq, nfN_eq]
    · intro x off ih k
      refine (show nfV (.eptr x off) k = nfV x fun x => nfN off fun off => k (.eptr x off) from rfl).trans ?_
      rw [ih, nfN_eq]
    · intro xs ih k; exact ih _
    · intro e xs ih k
      refine (show nfV (.own e xs) k = nfN e fun e => nfL xs fun xs => k (.own e xs) from rfl).trans ?_
      rw [nfN_eq, ih]
    · intro k; rfl
    · intro l g off len e k
      refine (show nfV (.msl l g off len e) k = nfN l fun l => nfN g fun g => nfN off fun off => nfN len fun len => nfN e fun e => k (.msl l g off len e) from rfl).trans ?_
      rw [nfN_eq, nfN_eq, nfN_eq, nfN_eq, nfN_eq]
    · intro fn a b iha ihb k
      refine (show nfV (.func fn a b) k = nfL a fun a => nfL b fun b => k (.func fn a b) from rfl).trans ?_
      rw [iha, ihb]
    · intro k; rfl
    · intro t v ih k
      refine (show nfV (.iface t v) k = nfN t fun t => nfV v fun v => k (.iface t v) from rfl).trans ?_
      rw [nfN_eq, ih]
    · intro k; rfl
    · intro cs ih k; exact ih _
    · intro vs ih k; exact ih _
    · intro k; rfl
    · intro k; rfl
    · intro v r ihv ihr k
      refine (show nfL (v :: r) k = nfV v fun v => nfL r fun r => k (v :: r) from rfl).trans ?_
      rw [ihv, ihr]
  refine ⟨key, fun l => ?_⟩
  induction l with
  | nil => intro k; rfl
  | cons v r ih =>
    intro k
    refine (show nfL (v :: r) k = nfV v fun v => nfL r fun r => k (v :: r) from rfl).trans ?_
    rw [key v, ih]
theorem nfV_eq {β : Type} (v : V) (k : V → β) : nfV v k = k v := nf_eq.1 v k
theorem nfL_eq {β : Type} (l : List V) (k : List V → β) : nfL l k = k l := nf_eq.2 l k

noncomputable def nfM {β : Type} : Mem → (Mem → β) → β
  | [], k => k []
  | b :: r, k => match b with
    | ⟨cells, ty, gen, frozen, grow, kind⟩ => nfL cells fun cells => nfN gen fun gen => nfM r fun r => match frozen, grow with
      | true, true => k (⟨cells, ty, gen, true, true, kind⟩ :: r)
      | true, false => k (⟨cells, ty, gen, true, false, kind⟩ :: r)
      | false, true => k (⟨cells, ty, gen, false, true, kind⟩ :: r)
      | false, false => k (⟨cells, ty, gen, false, false, kind⟩ :: r)
theorem nfM_eq {β : Type} : ∀ (σ : Mem) (k : Mem → β), nfM σ k = k σ
  | [], k => rfl
  | b :: r, k => by
    obtain ⟨cells, ty, gen, frozen, grow, kind⟩ := b
    simp only [nfM]
    rw [nfL_eq, nfN_eq, nfM_eq r]
    cases frozen <;> cases grow <;> rfl

/-- The blocks of a memory, each with its row of cells. -/
noncomputable def memS {β : Type} (σ : Mem) : (Mem → β) → β :=
  List.rec (motive := fun _ => (Mem → β) → β) (fun k => k []) (fun b _ ih k => match b with
    | ⟨cells, ty, gen, frozen, grow, kind⟩ => forceS cells fun cells => ih fun r => k (⟨cells, ty, gen, frozen, grow, kind⟩ :: r)) σ
theorem memS_eq {β : Type} (σ : Mem) : ∀ (k : Mem → β), memS σ k = k σ := by
  induction σ with
  | nil => exact fun _ => rfl
  | cons b r ih =>
    intro k
    obtain ⟨cells, ty, gen, frozen, grow, kind⟩ := b
    refine (show memS (⟨cells, ty, gen, frozen, grow, kind⟩ :: r) k = forceS cells fun cells => memS r fun r => k (⟨cells, ty, gen, frozen, grow, kind⟩ :: r) from rfl).trans ?_
    rw [forceS_eq, ih]

/-- Is what an operation gives new? -/
def newO (o : Op) : Bool :=
  match o with
  | .binOp _ _ _ _ _ | .unOp _ _ _ | .convert _ _ _ | .slice _ _ _ _ _ | .call _ | .index _ _ _ | .indexAddr _ _ _ | .fieldAddr _ _ _ | .build _ _ | .buildSlice _ _ _ | .makeInterface _ _ | .makeFunc _ _ _ | .box _ _ | .alloc _ | .makeSlice _ _ _ | .load _ _ => true
  | _ => false
/-- May an operation turn memory? -/
def memO (o : Op) : Bool :=
  match o with
  | .convert _ _ _ | .call _ | .buildSlice _ _ _ | .box _ _ | .alloc _ | .makeSlice _ _ _ | .store _ _ _ => true
  | _ => false

/-- What is built: its parts' heads too. -/
noncomputable def builtV {β : Type} (v : V) (k : V → β) : β :=
  match v with
  | .agg cs => headsV cs fun cs => k (.agg cs)
  | .own e xs => headsV xs fun xs => k (.own e xs)
  | v => k v
theorem builtV_eq {β : Type} (v : V) (k : V → β) : builtV v k = k v := by
  cases v with
  | agg cs => exact headsV_eq _ _
  | own e cs => exact headsV_eq _ _
  | _ => rfl
def builtO (o : Op) : Bool :=
  match o with
  | .build _ _ | .buildSlice _ _ _ => true
  | _ => false

noncomputable def forceV {β : Type} (z : Zm) (o : Op) (v : V) (k : V → β) : β :=
  match z with
  | .lazy => k v
  | .head => match builtO o with
    | true => builtV v k
    | false => headV v k
  | .deep => match newO o with
    | true => nfV v k
    | false => headV v k
theorem forceV_eq {β : Type} (z : Zm) (o : Op) (v : V) (k : V → β) : forceV z o v k = k v := by
  cases z with
  | lazy => rfl
  | head =>
    simp only [forceV]
    cases builtO o with
    | true => exact builtV_eq v k
    | false => exact headV_eq v k
  | deep =>
    simp only [forceV]
    cases newO o with
    | true => exact nfV_eq v k
    | false => exact headV_eq v k

noncomputable def forceM {β : Type} (z : Zm) (o : Op) (σ : Mem) (k : Mem → β) : β :=
  match z with
  | .lazy => k σ
  | .head => match memO o with
    | true => memS σ k
    | false => k σ
  | .deep => match memO o with
    | true => nfM σ k
    | false => k σ
theorem forceM_eq {β : Type} (z : Zm) (o : Op) (σ : Mem) (k : Mem → β) : forceM z o σ k = k σ := by
  cases z with
  | lazy => rfl
  | head =>
    simp only [forceM]
    cases memO o with
    | true => exact memS_eq σ k
    | false => rfl
  | deep =>
    simp only [forceM]
    cases memO o with
    | true => exact nfM_eq σ k
    | false => rfl

/-- A value that comes in. -/
noncomputable def inV {β : Type} (z : Zm) (v : V) (k : V → β) : β :=
  match z with
  | .lazy => k v
  | .head => headV v k
  | .deep => nfV v k
theorem inV_eq {β : Type} (z : Zm) (v : V) (k : V → β) : inV z v k = k v := by
  cases z with
  | lazy => rfl
  | head => exact headV_eq v k
  | deep => exact nfV_eq v k

/-- The heads of a row of values. -/
noncomputable def forceL {β : Type} (z : Zm) (l : List V) : (List V → β) → β :=
  List.rec (motive := fun _ => (List V → β) → β) (fun k => k []) (fun x _ ih k => inV z x fun x => ih fun r => k (x :: r)) l
theorem forceL_eq {β : Type} (z : Zm) (l : List V) : ∀ (k : List V → β), forceL z l k = k l := by
  induction l with
  | nil => exact fun _ => rfl
  | cons x r ih =>
    intro k
    refine (show forceL z (x :: r) k = inV z x fun x => forceL z r fun r => k (x :: r) from rfl).trans ?_
    rw [inV_eq]
    exact ih fun r => k (x :: r)

/-- One behind the other. -/
noncomputable def bindF {α β : Type} (a : Ask α) (g : α → Ask β) : Ask β :=
  Ask.rec (motive := fun _ => Ask β) (fun a => g a) .fail (fun b _ ih => .cond b ih) (fun b _ ih => .chk b ih) (fun xs i _ ih => .elem xs i ih) (fun f args σ _ ih => .call f args σ ih) (fun b fr σ _ ih => .loop b fr σ ih) a
theorem bindF_eq {α β : Type} (a : Ask α) (g : α → Ask β) : bindF a g = a.bind g := by
  induction a with
  | ret a => rfl
  | fail => rfl
  | cond b k ih => change Ask.cond b _ = Ask.cond b _; congr 1; funext x; exact ih x
  | chk b k ih => change Ask.chk b _ = Ask.chk b _; congr 1
  | elem xs i k ih => change Ask.elem xs i _ = Ask.elem xs i _; congr 1; funext x; exact ih x
  | call f args σ k ih => change Ask.call f args σ _ = Ask.call f args σ _; congr 1; funext x y; exact ih x y
  | loop b fr σ k ih => change Ask.loop b fr σ _ = Ask.loop b fr σ _; congr 1; funext x y w; exact ih x y w

variable (C : Cfg) (z : Zm)

/-- Is an operation wanted? What the guard was found to be is laid into its slot. -/
noncomputable def wantedF {α : Type} (ops : List Oper) (fr : Fr) (o : Oper) (k : Bool → Fr → Ask α) : Ask α :=
  match o.guard with
  | none => k true fr
  | some (j, want) => match ops[j]? with
    | some p => match p.dst with
      | some d => match fr[d]? with
        | some (.bool b) => .cond b fun b => match b with
          | true => setF fr d (.bool true) fun fr => k (true == want) fr
          | false => setF fr d (.bool false) fun fr => k (false == want) fr
        | some (.tuple []) => k false fr
        | _ => .fail
      | none => .fail
    | none => .fail

noncomputable def opsF {α : Type} (f : FuncId) (all : List Oper) (l : List Oper) : Fr → Mem → (Fr → Mem → Ask α) → Ask α :=
  List.rec (motive := fun _ => Fr → Mem → (Fr → Mem → Ask α) → Ask α) (fun fr σ k => k fr σ)
    (fun o _ ih fr σ k => wantedF all fr o fun w fr => match w with
      | true => bindF (opW C f all o fr σ) fun p => match p with
        | (v, fr', σ') => forceV z o.op v fun v => forceM z o.op σ' fun σ' => forceS fr' fun fr' => putF fr' o.dst v fun fr' => ih fr' σ' k
      | false => putF fr o.dst undef' fun fr' => ih fr' σ k) l

noncomputable def stepF {α : Type} (f : FuncId) (all : List Oper) (i : Nat) (fr : Fr) (σ : Mem) (k : Fr → Mem → Ask α) : Ask α :=
  match all[i]? with
  | none => .fail
  | some o => wantedF all fr o fun w fr => match w with
    | true => match kindO C o == 2 && !lowArgs C fr o with
      | true => .fail
      | false => bindF (opW C f all o fr σ) fun p => match p with
        | (v, fr', σ') => forceV z o.op v fun v => forceM z o.op σ' fun σ' => forceS fr' fun fr' => putF fr' o.dst v fun fr' => k fr' σ'
    | false => putF fr o.dst undef' fun fr' => k fr' σ

noncomputable def drawF {α : Type} (f : FuncId) (all : List Oper) (p : Plan) : Fr → Mem → (Fr → Mem → Ask α) → Ask α :=
  Plan.rec (motive := fun _ => Fr → Mem → (Fr → Mem → Ask α) → Ask α) (fun fr σ k => k fr σ)
    (fun i _ ih fr σ k => stepF C z f all i fr σ fun fr σ => ih fr σ k)
    (fun i j _ _ ihp ihq fr σ k => stepF C z f all i fr σ fun fr1 σ1 => ihp fr1 σ1 fun fr1 σ1 => stepF C z f all j fr σ fun fr2 σ2 => ihq fr2 σ2 fun fr2 σ2 =>
      .chk (sameL fr1 fr2 && sameM σ1 σ2) (k fr1 σ1)) p

/-- What a test was found to be is laid into its slot. -/
noncomputable def knownF {β : Type} (fr : Fr) (c : Operand) (b : Bool) (k : Fr → β) : β :=
  match c with
  | .tmp t => setF fr t (.bool b) k
  | _ => k fr

noncomputable def regionF {α : Type} (f : FuncId) (id : Nat) (ops : Array Oper) (d : Bool) (fr : Fr) (σ : Mem) (k : Fr → Mem → Ask α) : Ask α :=
  match d with
  | false => opsF C z f ops.toList ops.toList fr σ k
  | true => drawF C z f ops.toList (C.ord f id) fr σ k

noncomputable def codeF {α : Type} (f : FuncId) (c : Code) : Fr → Mem → (Out → Fr → Mem → Ask α) → Ask α :=
  Code.rec (motive := fun _ => Fr → Mem → (Out → Fr → Mem → Ask α) → Ask α)
    (fun fr σ k => k .normal fr σ)
    (fun id ops d fr σ k => regionF C z f id ops d fr σ fun fr σ => k .normal fr σ)
    (fun _ _ iha ihb fr σ k => iha fr σ fun o fr σ => match o with
      | .normal => ihb fr σ k
      | .exit id => k (.exit id) fr σ
      | .ret => k .ret fr σ)
    (fun c _ _ iha ihb fr σ k => match evalW C fr c with
      | .bool t => .cond t fun t => match t with
        | true => knownF fr c true fun fr => iha fr σ k
        | false => knownF fr c false fun fr => ihb fr σ k
      | _ => .fail)
    (fun id _ ih fr σ k => ih fr σ fun o fr σ => match o with
      | .normal => k .normal fr σ
      | .exit j => match Nat.beq j id with
        | true => k .normal fr σ
        | false => k (.exit j) fr σ
      | .ret => k .ret fr σ)
    (fun b _ fr σ k => .loop b fr σ fun o fr σ => k o fr σ)
    (fun _ _ _ _ _ _ _ _ _ => .fail)
    (fun id fr σ k => k (.exit id) fr σ)
    (fun _ _ _ _ _ => .fail)
    (fun _ _ _ _ => .fail)
    (fun _ _ _ _ => .fail)
    (fun fr σ k => k .ret fr σ)
    (fun _ _ _ _ => .fail) c

section
variable {C} {z : Zm} {α β γ : Type}

/-- Two evaluations come to one. -/
def Ask.eqv (a b : Ask α) : Prop := ∀ E, a.run E = b.run E
theorem Ask.eqv.refl (a : Ask α) : a.eqv a := fun _ => rfl
theorem Ask.eqv.trans {a b c : Ask α} (h : a.eqv b) (h' : b.eqv c) : a.eqv c := fun E => (h E).trans (h' E)
theorem Ask.eqv.symm {a b : Ask α} (h : a.eqv b) : b.eqv a := fun E => (h E).symm
theorem Ask.eqv_of_eq {a b : Ask α} (h : a = b) : a.eqv b := fun _ => by rw [h]
theorem Ask.eqv_bind {a a' : Ask α} {f g : α → Ask β} (h : a.eqv a') (hf : ∀ x, (f x).eqv (g x)) : (a.bind f).eqv (a'.bind g) := fun E => by
  rw [Ask.run_bindW, Ask.run_bindW, h E]
  split
  · exact hf _ E
  · rfl
theorem Ask.eqv_cond {b : Bool} {f g : Bool → Ask α} (h : (f b).eqv (g b)) : (Ask.cond b f).eqv (.cond b g) := fun E => h E

theorem Ask.bind_assoc' (a : Ask α) (f : α → Ask β) (g : β → Ask γ) : (a.bind f).bind g = a.bind fun x => (f x).bind g := by
  induction a with
  | ret a => rfl
  | fail => rfl
  | cond b k ih => simp only [Ask.bind]; congr 1; funext x; exact ih x
  | chk b k ih => simp only [Ask.bind]; rw [ih]
  | elem xs i k ih => simp only [Ask.bind]; congr 1; funext x; exact ih x
  | call g args σ k ih => simp only [Ask.bind]; congr 1; funext x y; exact ih x y
  | loop b fr σ k ih => simp only [Ask.bind]; congr 1; funext x y z; exact ih x y z

theorem set_same {fr : Fr} {d : Nat} {v : V} (h : fr[d]? = some v) : fr.set d v = fr := by
  apply List.ext_getElem?
  intro i
  rw [List.getElem?_set]
  split
  · rename_i hi
    subst hi
    split
    · exact h.symm
    · rename_i hl
      rw [List.getElem?_eq_none (by omega)]
  · rfl

theorem wantedF_eqv {ops : List Oper} {fr : Fr} {o : Oper} {k : Bool → Fr → Ask β} {k' : Bool → Ask α} {g : α → Ask β} (h : ∀ w, (k w fr).eqv ((k' w).bind g)) : (wantedF ops fr o k).eqv ((wantedV ops fr o k').bind g) := by
  unfold wantedF wantedV
  cases o.guard with
  | none => exact h true
  | some jw =>
    obtain ⟨j, want⟩ := jw
    simp only
    cases ops[j]? with
    | none => exact Ask.eqv.refl _
    | some p =>
      simp only
      cases p.dst with
      | none => exact Ask.eqv.refl _
      | some d =>
        simp only
        cases hfr : fr[d]? with
        | none => exact Ask.eqv.refl _
        | some v =>
          cases v with
          | bool b =>
            change (Ask.cond b _).eqv (Ask.cond b _)
            refine Ask.eqv_cond ?_
            cases b with
            | true => simp only; rw [setF_eq, set_same hfr]; exact h _
            | false => simp only; rw [setF_eq, set_same hfr]; exact h _
          | tuple vs =>
            cases vs with
            | nil => exact h false
            | cons x r => exact Ask.eqv.refl _
          | _ => exact Ask.eqv.refl _

theorem opsF_eqv {f : FuncId} {all : List Oper} : ∀ (l : List Oper) (fr : Fr) (σ : Mem) (k : Fr → Mem → Ask α), (opsF C z f all l fr σ k).eqv ((opsV C f all l fr σ).bind fun p => k p.1 p.2) := by
  intro l
  induction l with
  | nil => exact fun fr σ k => Ask.eqv.refl _
  | cons o r ih =>
    intro fr σ k
    simp only [opsV]
    refine Ask.eqv.trans (Ask.eqv_of_eq (show opsF C z f all (o :: r) fr σ k = wantedF all fr o fun w fr => match w with
      | true => bindF (opW C f all o fr σ) fun p => match p with
        | (v, fr', σ') => forceV z o.op v fun v => forceM z o.op σ' fun σ' => forceS fr' fun fr' => putF fr' o.dst v fun fr' => opsF C z f all r fr' σ' k
      | false => putF fr o.dst undef' fun fr' => opsF C z f all r fr' σ k from rfl)) ?_
    refine wantedF_eqv fun w => ?_
    cases w with
    | true =>
      simp only
      rw [Ask.bind_assoc', bindF_eq, opW_eq]
      refine Ask.eqv_bind (Ask.eqv.refl _) fun p => ?_
      obtain ⟨v, fr', σ'⟩ := p
      simp only
      rw [forceV_eq, forceM_eq, forceS_eq, putF_eq]
      exact ih _ _ _
    | false =>
      simp only
      rw [putF_eq]
      exact ih _ _ _

theorem stepF_eqv {f : FuncId} {all : List Oper} (i : Nat) (fr : Fr) (σ : Mem) {k : Fr → Mem → Ask α} {k' : Fr → Mem → Ask (Fr × Mem)} {g : Fr × Mem → Ask α} (h : ∀ fr σ, (k fr σ).eqv ((k' fr σ).bind g)) : (stepF C z f all i fr σ k).eqv ((stepV C f all i fr σ k').bind g) := by
  unfold stepF stepV
  cases all[i]? with
  | none => exact Ask.eqv.refl _
  | some o =>
    simp only
    refine wantedF_eqv fun w => ?_
    cases w with
    | true =>
      simp only
      cases kindO C o == 2 && !lowArgs C fr o with
      | true => exact Ask.eqv.refl _
      | false =>
        simp only
        rw [Ask.bind_assoc', bindF_eq, opW_eq]
        refine Ask.eqv_bind (Ask.eqv.refl _) fun p => ?_
        obtain ⟨v, fr', σ'⟩ := p
        simp only
        rw [forceV_eq, forceM_eq, forceS_eq, putF_eq]
        exact h _ _
    | false =>
      simp only
      rw [putF_eq]
      exact h _ _

theorem drawF_eqv {f : FuncId} {all : List Oper} (p : Plan) : ∀ {α : Type} (fr : Fr) (σ : Mem) (k : Fr → Mem → Ask α), (drawF C z f all p fr σ k).eqv ((drawV C f all p fr σ).bind fun p => k p.1 p.2) := by
  induction p with
  | stop => exact fun fr σ k => Ask.eqv.refl _
  | take i r ih =>
    intro α fr σ k
    simp only [drawV]
    exact stepF_eqv _ _ _ fun fr σ => ih fr σ k
  | both i j p q ihp ihq =>
    intro α fr σ k
    simp only [drawV]
    rw [Ask.bind_assoc']
    refine Ask.eqv.trans (Ask.eqv_of_eq (show drawF C z f all (.both i j p q) fr σ k = stepF C z f all i fr σ fun fr1 σ1 => drawF C z f all p fr1 σ1 fun fr1 σ1 => stepF C z f all j fr σ fun fr2 σ2 => drawF C z f all q fr2 σ2 fun fr2 σ2 =>
      .chk (sameL fr1 fr2 && sameM σ1 σ2) (k fr1 σ1) from rfl)) ?_
    refine stepF_eqv _ _ _ fun fr1 σ1 => ?_
    refine (ihp _ _ _).trans (Ask.eqv_bind (Ask.eqv.refl _) fun x => ?_)
    rw [Ask.bind_assoc']
    refine stepF_eqv _ _ _ fun fr2 σ2 => ?_
    exact (ihq _ _ _).trans (Ask.eqv_bind (Ask.eqv.refl _) fun y => Ask.eqv.refl _)

theorem knownF_eq {β : Type} {fr : Fr} {c : Operand} {b : Bool} {k : Fr → β} (h : evalV C fr c = .bool b) : knownF fr c b k = k fr := by
  unfold knownF
  split
  · rename_i t
    rw [setF_eq]
    congr 1
    refine set_same ?_
    simp only [evalV, List.getD] at h
    cases hf : fr[t]? with
    | none => rw [hf] at h; simp [undef'] at h
    | some v => rw [hf] at h; simp at h; rw [h]
  · rfl

theorem codeF_eqv {f : FuncId} (c : Code) : ∀ {α : Type} (fr : Fr) (σ : Mem) (k : Out → Fr → Mem → Ask α), (codeF C z f c fr σ k).eqv ((codeA C f c fr σ).bind fun r => k r.1 r.2.1 r.2.2) := by
  induction c with
  | skip => exact fun fr σ k => Ask.eqv.refl _
  | seq a b iha ihb =>
    intro α fr σ k
    simp only [codeA, thenA]
    rw [Ask.bind_assoc']
    refine (iha _ _ _).trans (Ask.eqv_bind (Ask.eqv.refl _) fun r => ?_)
    obtain ⟨o, fr', σ'⟩ := r
    cases o with
    | normal => exact ihb fr' σ' k
    | exit id => exact Ask.eqv.refl _
    | ret => exact Ask.eqv.refl _
  | cond c a b iha ihb =>
    intro α fr σ k
    change (match evalW C fr c with
      | .bool t => Ask.cond t fun t => match t with
        | true => knownF fr c true fun fr => codeF C z f a fr σ k
        | false => knownF fr c false fun fr => codeF C z f b fr σ k
      | _ => .fail).eqv _
    rw [evalW_eq]
    simp only [codeA]
    cases hc : evalV C fr c with
    | bool t =>
      change (Ask.cond t _).eqv (Ask.cond t _)
      refine Ask.eqv_cond ?_
      cases t with
      | true => simp only; rw [knownF_eq hc]; exact iha fr σ k
      | false => simp only; rw [knownF_eq hc]; exact ihb fr σ k
    | _ => exact Ask.eqv.refl _
  | block id c ih =>
    intro α fr σ k
    simp only [codeA]
    rw [Ask.bind_assoc']
    refine (ih _ _ _).trans (Ask.eqv_bind (Ask.eqv.refl _) fun r => ?_)
    obtain ⟨o, fr', σ'⟩ := r
    cases o with
    | normal => exact Ask.eqv.refl _
    | exit j =>
      simp only
      by_cases hj : j = id
      · subst hj
        simp [Ask.bind, Nat.beq_refl, Ask.eqv.refl]
      · have : Nat.beq j id = false := by
          cases hb : Nat.beq j id with
          | false => rfl
          | true => exact absurd (Nat.eq_of_beq_eq_true hb) hj
        simp [Ask.bind, this, hj, Ask.eqv.refl]
    | ret => exact Ask.eqv.refl _
  | region id ops d =>
    intro α fr σ k
    cases d with
    | false =>
      simp only [codeA]
      rw [Ask.bind_assoc']
      exact opsF_eqv _ _ _ _
    | true =>
      simp only [codeA]
      rw [Ask.bind_assoc']
      exact drawF_eqv _ _ _ _
  | _ => intros; exact Ask.eqv.refl _

theorem Ask.bind_ret (a : Ask α) : a.bind .ret = a := by
  induction a with
  | ret a => rfl
  | fail => rfl
  | cond b k ih => simp only [Ask.bind]; congr 1; funext x; exact ih x
  | chk b k ih => simp only [Ask.bind]; rw [ih]
  | elem xs i k ih => simp only [Ask.bind]; congr 1; funext x; exact ih x
  | call g args σ k ih => simp only [Ask.bind]; congr 1; funext x y; exact ih x y
  | loop b fr σ k ih => simp only [Ask.bind]; congr 1; funext x y z; exact ih x y z

theorem Runs.eqv {f : FuncId} {a b : Ask α} {Q : α → Prop} (h : a.eqv b) (hr : Runs C f a Q) : Runs C f b Q := by
  obtain ⟨n, r, h1, h2⟩ := hr
  exact ⟨n, r, by rw [← h]; exact h1, h2⟩

/-- A stretch of code, for the answer itself. -/
noncomputable def codeR (C : Cfg) (z : Zm) (f : FuncId) (c : Code) (fr : Fr) (σ : Mem) : Ask Res := codeF C z f c fr σ fun o fr σ => .ret (o, fr, σ)

theorem codeR_eqv {f : FuncId} (c : Code) (fr : Fr) (σ : Mem) : (codeR C z f c fr σ).eqv (codeA C f c fr σ) := by
  have := codeF_eqv (C := C) (z := z) (f := f) c fr σ fun o fr σ => Ask.ret (o, fr, σ)
  refine this.trans (Ask.eqv_of_eq ?_)
  exact Ask.bind_ret _

theorem CallR.walk (z : Zm) {g : FuncId} {args : List V} {σ : Mem} {fn : Func} {c : Code} {args' : List V} {σ' : Mem} {Q : V → Mem → Prop} (h : Enter C g args σ fn c args' σ' true)
    (hr : Runs C g (forceL z args' fun a => forceS (startF fn a) fun fr => codeR C z g c fr []) fun r => ∃ y, backF C g fn r = some y ∧ Q (backLow σ' y).1 (backLow σ' y).2) : CallR C g args σ Q := by
  rw [forceL_eq, forceS_eq] at hr
  exact CallR.enter h (hr.eqv (codeR_eqv _ _ _))

theorem CallR.walkM (z : Zm) {g : FuncId} {args : List V} {σ : Mem} {fn : Func} {c : Code} {args' : List V} {σ' : Mem} {Q : V → Mem → Prop} (h : Enter C g args σ fn c args' σ' false)
    (hr : Runs C g (forceL z args' fun a => forceS (startF fn a) fun fr => codeR C z g c fr σ') fun r => ∃ y, backF C g fn r = some y ∧ Q (backHigh σ' y).1 (backHigh σ' y).2) : CallR C g args σ Q := by
  rw [forceL_eq, forceS_eq] at hr
  exact CallR.enterM h (hr.eqv (codeR_eqv _ _ _))

def lowW (n : Nat) (v : V) : Bool :=
  match v with
  | .ptr l _ _ => Nat.blt l n
  | .msl l _ _ _ _ => Nat.blt l n
  | .agg cs => lowL n cs
  | .tuple cs => lowL n cs
  | .iface _ v => v.low n
  | .func _ a b => lowL n a && lowL n b
  | _ => true
theorem lowW_eq (n : Nat) (v : V) : lowW n v = v.low n := by cases v <;> simp [lowW, V.low]
noncomputable def lowLW (n : Nat) (l : List V) : Bool := List.rec (motive := fun _ => Bool) true (fun v _ ih => match lowW n v with
  | true => ih
  | false => false) l
theorem lowLW_eq (n : Nat) (l : List V) : lowLW n l = lowL n l := by
  induction l with
  | nil => rfl
  | cons v r ih =>
    refine (show lowLW n (v :: r) = match lowW n v with | true => lowLW n r | false => false from rfl).trans ?_
    rw [lowW_eq, ih]
    simp only [lowL]
    cases v.low n <;> rfl
noncomputable def lowBlksW (n : Nat) (l : List Blk) : Bool := List.rec (motive := fun _ => Bool) true (fun b _ ih => match lowLW n b.cells with
  | true => ih
  | false => false) l
theorem lowBlksW_eq (n : Nat) (l : List Blk) : lowBlksW n l = lowBlks n l := by
  induction l with
  | nil => rfl
  | cons b r ih =>
    refine (show lowBlksW n (b :: r) = match lowLW n b.cells with | true => lowBlksW n r | false => false from rfl).trans ?_
    rw [lowLW_eq, ih]
    simp only [lowBlks]
    cases lowL n b.cells <;> rfl
/-- What leads into newer memory, in a row. -/
noncomputable def junkT {β : Type} (n : Nat) (l : List V) : (List V → β) → β :=
  List.rec (motive := fun _ => (List V → β) → β) (fun k => k []) (fun v _ ih k => ih fun r => k ((match lowW n v with
    | true => v
    | false => .junk) :: r)) l
theorem junkT_eq {β : Type} (n : Nat) (l : List V) : ∀ (k : List V → β), junkT n l k = k (junkHigh n l) := by
  induction l with
  | nil => exact fun _ => rfl
  | cons v r ih =>
    intro k
    refine (show junkT n (v :: r) k = junkT n r fun r => k ((match lowW n v with | true => v | false => .junk) :: r) from rfl).trans ?_
    rw [ih, lowW_eq]
    rfl
noncomputable def sweepT {β : Type} (z : Zm) (n : Nat) (fr : Fr) (σ : Mem) (k : Fr → Mem → β) : β :=
  match z with
  | .lazy => k (sweep n fr σ).1 (sweep n fr σ).2
  | _ => match lowBlksW n (σ.take n) with
    | true => junkT n fr fun fr => memS (σ.take n) fun σ => k fr σ
    | false => k fr σ
theorem sweepT_eq {β : Type} (z : Zm) (n : Nat) (fr : Fr) (σ : Mem) (k : Fr → Mem → β) : sweepT z n fr σ k = k (sweep n fr σ).1 (sweep n fr σ).2 := by
  have key : (match lowBlksW n (σ.take n) with
    | true => junkT n fr fun fr => memS (σ.take n) fun σ => k fr σ
    | false => k fr σ) = k (sweep n fr σ).1 (sweep n fr σ).2 := by
    unfold sweep
    rw [lowBlksW_eq]
    cases lowBlks n (σ.take n) with
    | true => simp only; rw [junkT_eq, memS_eq]
    | false => rfl
  cases z with
  | lazy => rfl
  | head => exact key
  | deep => exact key

/-- What comes of a round, by an invariant that counts down. -/
def RoundT (C : Cfg) (z : Zm) (f : FuncId) (I : Nat → Fr → Mem → Prop) (n : Nat) (σ : Mem) (Q : Out → Fr → Mem → Prop) (r : Res) : Prop :=
  match r with
  | (.normal, fr', σ') => match C.memF f with
    | true => ∃ m, m < n ∧ I m fr' σ'
    | false => sweepT z σ.length fr' σ' fun fr' σ' => ∃ m, m < n ∧ I m fr' σ'
  | (.exit id, fr', σ') => Q (.exit id) fr' σ'
  | (.ret, fr', σ') => Q .ret fr' σ'
theorem RoundT_eq {C : Cfg} {z : Zm} {f : FuncId} {I : Nat → Fr → Mem → Prop} {n : Nat} {σ : Mem} {Q : Out → Fr → Mem → Prop} {r : Res} (h : RoundT C z f I n σ Q r) : RoundI C f I n σ Q r := by
  obtain ⟨o, fr', σ'⟩ := r
  cases o with
  | normal =>
    simp only [RoundT] at h
    simp only [RoundI]
    cases hm : C.memF f with
    | true => rw [hm] at h; exact h
    | false => rw [hm] at h; simp only at h; rw [sweepT_eq] at h; exact h
  | exit id => exact h
  | ret => exact h

theorem LoopR.walk (z : Zm) {f : FuncId} {b : Code} {Q : Out → Fr → Mem → Prop} (I : Nat → Fr → Mem → Prop) (step : ∀ n fr σ, I n fr σ → Runs C f (codeR C z f b fr σ) (RoundT C z f I n σ Q)) {n : Nat} {fr : Fr} {σ : Mem} (h : I n fr σ) : LoopR C f b fr σ Q :=
  LoopR.inv I (fun n fr σ hI => ((step n fr σ hI).eqv (codeR_eqv _ _ _)).mono fun _ hr => RoundT_eq hr) h

theorem LoopR.walkE (z : Zm) {f : FuncId} {b : Code} {Q : Out → Fr → Mem → Prop} (I : Nat → Fr → Mem → Prop) {fr : Fr} {σ : Mem} (h : ∃ n, I n fr σ) (step : ∀ n fr σ, I n fr σ → Runs C f (codeR C z f b fr σ) (RoundT C z f I n σ Q)) : LoopR C f b fr σ Q :=
  h.elim fun _ h => LoopR.walk z I step h

end
end MI
namespace MI
theorem condT {P Q : Prop} (h : P) : (true = true → P) ∧ (true = false → Q) := ⟨fun _ => h, fun h => by cases h⟩
theorem condF {P Q : Prop} (h : Q) : (false = true → P) ∧ (false = false → Q) := ⟨fun h => (by cases h), fun _ => h⟩
theorem chkT {P : Prop} (h : P) : true = true ∧ P := ⟨rfl, h⟩
end MI
namespace MI
open Go
section
variable {C : Cfg}
/-- Arguments at rest. -/
theorem CallR.frz {g : FuncId} {args args' : List V} {σ σ' : Mem} {Q : V → Mem → Prop} (hk : C.keep g = false) (h : frzL C args σ = some (args', σ')) (h' : frzL C args' σ' = some (args', σ')) (hc : CallR C g args' σ' Q) : CallR C g args σ Q := by
  obtain ⟨n, v, σ2, h1, h2⟩ := hc
  refine ⟨n, v, σ2, ?_, h2⟩
  cases n with
  | zero => cases h1
  | succ n =>
    change callF C (fun f c fr σ => (codeA C f c fr σ).run (envN C n f)) g args' σ' = _ at h1
    change callF C (fun f c fr σ => (codeA C f c fr σ).run (envN C n f)) g args σ = _
    unfold callF at h1 ⊢
    rw [hk] at h1 ⊢
    simp only [h, h'] at h1 ⊢
    exact h1

mutual
theorem shift_zero : (v : V) → shift 0 v = v
  | .ptr l g off => by simp [shift]
  | .msl l g off len e => by simp [shift]
  | .agg cs => by simp [shift, shiftL_zero cs]
  | .tuple cs => by simp [shift, shiftL_zero cs]
  | .iface t v => by simp [shift, shift_zero v]
  | .func f a b => by simp [shift, shiftL_zero a, shiftL_zero b]
  | .bool _ => rfl | .int _ _ => rfl | .str _ => rfl | .nilptr => rfl | .eptr _ _ => rfl | .row _ => rfl | .own _ _ => rfl | .nils => rfl | .nilfn => rfl | .niliface => rfl | .junk => rfl
theorem shiftL_zero : (l : List V) → shiftL 0 l = l
  | [] => rfl
  | v :: r => by simp [shiftL, shift_zero v, shiftL_zero r]
end

/-- A call without arguments, in whatever memory. -/
theorem CallTo.none {g : FuncId} {fn : Func} {v : V} (hk : C.keep g = false) (he : C.ext g [] = none) (hm : ∀ σ, C.extM g [] σ = none) (hf : C.fn g = some fn) (h : CallTo C g [] [] v []) (hv : v.low 0 = true) (σ : Mem) : CallTo C g [] σ v σ := by
  obtain ⟨n, x, s, h1, rfl, rfl⟩ := h
  refine ⟨n, x, σ, ?_, rfl, rfl⟩
  cases n with
  | zero => cases h1
  | succ n =>
    change callF C (fun f c fr σ => (codeA C f c fr σ).run (envN C n f)) g [] [] = _ at h1
    change callF C (fun f c fr σ => (codeA C f c fr σ).run (envN C n f)) g [] σ = _
    unfold callF at h1 ⊢
    rw [hk] at h1 ⊢
    simp only [frzL, callG, he, hm, hf, lowL] at h1 ⊢
    split at h1
    · rename_i u σ' hb
      split at h1
      · rename_i hu
        cases h1
        rfl
      · rename_i hu
        simp only [Option.some.injEq, Prod.mk.injEq] at h1
        exfalso
        have h2 := h1.1
        have : ∀ u : V, u.low 0 = false → (shift 0 u).low 0 = true → False := by
          intro u
          have key : ∀ u : V, shift 0 u = u := fun u => by
            exact shift_zero u
          rw [key]; intro a b; rw [a] at b; cases b
        exact this u hu (by rw [show shift 0 u = x from h2]; exact hv)
    · cases h1
end
end MI
namespace MI
theorem elemOK {xs : List V} {i : Nat} {v : V} {P : V → Prop} (h : xs[i]? = some v) (hp : P v) : ∃ v, xs[i]? = some v ∧ P v := ⟨v, h, hp⟩
end MI
namespace MI
open Go
/-- A frame of a shape. -/
def matchF : List (Option V) → Fr → Prop
  | [], [] => True
  | some v :: ps, x :: r => x = v ∧ matchF ps r
  | none :: ps, _ :: r => matchF ps r
  | _, _ => False
noncomputable def fillF (J : Nat → V) (ps : List (Option V)) : Nat → Fr :=
  List.rec (motive := fun _ => Nat → Fr) (fun _ => []) (fun p _ ih n => match p with
    | some v => v :: ih (n + 1)
    | none => J n :: ih (n + 1)) ps
theorem matchF_fill' : ∀ (ps : List (Option V)) (fr : Fr) (n : Nat) (J : Nat → V), matchF ps fr → (∀ i, i < fr.length → J (n + i) = fr.getD i undef') → fr = fillF J ps n
  | [], [], n, J, _, _ => rfl
  | some v :: ps, x :: r, n, J, h, hJ => by
    obtain ⟨rfl, h⟩ := h
    have := matchF_fill' ps r (n + 1) J h fun i hi => by
      have := hJ (i + 1) (by simp; omega)
      rw [show n + 1 + i = n + (i + 1) from by omega, this]
      simp
    exact (congrArg (x :: ·) this).trans rfl
  | none :: ps, x :: r, n, J, h, hJ => by
    have h0 := hJ 0 (by simp)
    have := matchF_fill' ps r (n + 1) J h fun i hi => by
      have := hJ (i + 1) (by simp; omega)
      rw [show n + 1 + i = n + (i + 1) from by omega, this]
      simp
    refine (congrArg (x :: ·) this).trans ?_
    have h0' : J n = x := by simpa using h0
    rw [← h0']
    rfl
  | [], _ :: _, _, _, h, _ => h.elim
  | some _ :: _, [], _, _, h, _ => h.elim
  | none :: _, [], _, _, h, _ => h.elim
theorem matchF_fill {ps : List (Option V)} {fr : Fr} (h : matchF ps fr) : ∃ J, fr = fillF J ps 0 :=
  ⟨fun n => fr.getD n undef', matchF_fill' ps fr 0 _ h fun i _ => by simp⟩

theorem LoopR.walkS {C : Cfg} (z : Zm) {f : FuncId} {b : Code} {Q : Out → Fr → Mem → Prop} (I : Nat → Fr → Mem → Prop) {fr : Fr} {σ : Mem} (h : ∃ n, I n fr σ) (step : ∀ n fr σ, I n fr σ → Runs C f (forceS fr fun fr => codeR C z f b fr σ) (RoundT C z f I n σ Q)) : LoopR C f b fr σ Q :=
  LoopR.walkE z I h fun n fr σ hI => by have := step n fr σ hI; rwa [forceS_eq] at this
end MI

namespace MI
open Go

/-! ### The interpreter for closed runs by the kernel -/

noncomputable def execK (C : Cfg) (E : FuncId → Env) : Exec := fun f c fr σ => forceL .deep fr fun fr => nfM σ fun σ => (codeR C .deep f c fr σ).run (E f)

noncomputable def junkW (n : Nat) (l : List V) : List V := List.rec (motive := fun _ => List V) [] (fun v _ ih => (match lowW n v with
  | true => v
  | false => .junk) :: ih) l
theorem junkW_eq (n : Nat) (l : List V) : junkW n l = junkHigh n l := by
  induction l with
  | nil => rfl
  | cons v r ih =>
    refine (show junkW n (v :: r) = (match lowW n v with | true => v | false => .junk) :: junkW n r from rfl).trans ?_
    rw [lowW_eq, ih]
    rfl
noncomputable def sweepW (n : Nat) (fr : Fr) (σ : Mem) : Fr × Mem :=
  match lowBlksW n (σ.take n) with
  | true => (junkW n fr, σ.take n)
  | false => (fr, σ)
theorem sweepW_eq (n : Nat) (fr : Fr) (σ : Mem) : sweepW n fr σ = sweep n fr σ := by
  unfold sweepW sweep
  rw [lowBlksW_eq, junkW_eq]
  rfl
noncomputable def gcW (n : Nat) (v : V) (σ : Mem) : Mem :=
  match lowW n v with
  | true => (match lowBlksW n (σ.take n) with
    | true => σ.take n
    | false => σ)
  | false => σ
theorem gcW_eq (n : Nat) (v : V) (σ : Mem) : gcW n v σ = gc n v σ := by
  unfold gcW gc
  rw [lowBlksW_eq, lowW_eq]
  cases v.low n <;> cases lowBlks n (σ.take n) <;> rfl

def frzW (C : Cfg) (v : V) (σ : Mem) : Option (V × Mem) :=
  match v with
  | .msl l g off len e => frz C (.msl l g off len e) σ
  | .agg cs => frz C (.agg cs) σ
  | .tuple cs => frz C (.tuple cs) σ
  | .iface t v => frz C (.iface t v) σ
  | .own _ xs => some (.row xs, σ)
  | .nils => some (.row [], σ)
  | v => some (v, σ)
theorem frzW_eq (C : Cfg) (v : V) (σ : Mem) : frzW C v σ = frz C v σ := by cases v <;> simp [frzW, frz]
noncomputable def frzLW (C : Cfg) (l : List V) : Mem → Option (List V × Mem) := List.rec (motive := fun _ => Mem → Option (List V × Mem)) (fun σ => some ([], σ)) (fun v _ ih σ => match frzW C v σ with
  | some (v, σ) => match ih σ with
    | some (r, σ) => some (v :: r, σ)
    | none => none
  | none => none) l
theorem frzLW_eq (C : Cfg) (l : List V) : ∀ σ, frzLW C l σ = frzL C l σ := by
  induction l with
  | nil => intro σ; simp [frzL]; rfl
  | cons v r ih =>
    intro σ
    refine (show frzLW C (v :: r) σ = (match frzW C v σ with
      | some (v, σ) => match frzLW C r σ with
        | some (r, σ) => some (v :: r, σ)
        | none => none
      | none => none) from rfl).trans ?_
    rw [frzW_eq]
    simp only [frzL]
    cases frz C v σ with
    | none => rfl
    | some p =>
      simp only [ih]
      rfl

/-- A call, its tests in the quick form. -/
noncomputable def callW (C : Cfg) (E : Exec) (f : FuncId) (args : List V) (σ : Mem) : Option (V × Mem) :=
  let body (args : List V) (σ : Mem) : Option (V × Mem) :=
    match C.ext f args with
    | some r => some (r, σ)
    | none =>
    match C.extM f args σ with
    | some r => some r
    | none =>
      match C.fn f with
      | none => none
      | some fn =>
        match lowLW 0 args with
        | true => match bodyF C E f fn args [] with
          | some (v, σ') => match lowW 0 v with
            | true => some (v, σ)
            | false => some (shift σ.length v, σ ++ shiftB σ.length σ')
          | none => none
        | false => match bodyF C E f fn args σ with
          | some (v, σ') => some (v, gcW σ.length v σ')
          | none => none
  match C.keep f with
  | true => body args σ
  | false => match frzLW C args σ with
    | some (args, σ) => body args σ
    | none => none
theorem callW_eq (C : Cfg) (E : Exec) (f : FuncId) (args : List V) (σ : Mem) : callW C E f args σ = callF C E f args σ := by
  unfold callW callF callG
  simp only [lowLW_eq, lowW_eq, gcW_eq, frzLW_eq]
  rfl

noncomputable def loopK (C : Cfg) (E : Env) (f : FuncId) (b : Code) : Nat → Fr → Mem → Option Res
  | 0, _, _ => none
  | n + 1, fr, σ => match (codeR C .deep f b fr σ).run E with
    | some (.normal, fr', σ') => match C.memF f with
      | true => loopK C E f b n fr' σ'
      | false => match sweepW σ.length fr' σ' with
        | (fr2, σ2) => forceL .head fr2 fun fr2 => nfM σ2 fun σ2 => loopK C E f b n fr2 σ2
    | some r => some r
    | none => none

noncomputable def envK (C : Cfg) : Nat → FuncId → Env
  | 0, _ => ⟨fun _ _ _ => none, fun _ _ _ => none⟩
  | n + 1, f => ⟨fun g args σ => callW C (execK C (envK C n)) g args σ, fun b fr σ => loopK C (envK C n f) f b n fr σ⟩

theorem loopK_eq {C : Cfg} {E : Env} {f : FuncId} {b : Code} : ∀ (n : Nat) (fr : Fr) (σ : Mem), loopK C E f b n fr σ = loopN C E f b n fr σ
  | 0, _, _ => rfl
  | n + 1, fr, σ => by
    simp only [loopK, loopN]
    rw [codeR_eqv b fr σ E]
    cases hr : (codeA C f b fr σ).run E with
    | none => rfl
    | some r =>
      obtain ⟨o, fr', σ'⟩ := r
      cases o with
      | normal =>
        simp only
        cases C.memF f with
        | true => exact loopK_eq n fr' σ'
        | false =>
          simp only
          rw [forceL_eq, nfM_eq, sweepW_eq]
          exact loopK_eq n _ _
      | exit id => rfl
      | ret => rfl

theorem envK_eq {C : Cfg} : ∀ (n : Nat) (f : FuncId), envK C n f = envN C n f
  | 0, f => rfl
  | n + 1, f => by
    have h : envK C n = envN C n := funext fun f => envK_eq n f
    have h2 : execK C (envN C n) = fun f c fr σ => (codeA C f c fr σ).run (envN C n f) := by
      funext f c fr σ
      unfold execK
      rw [forceL_eq, nfM_eq]
      exact codeR_eqv c fr σ _
    simp only [envK, envN, h, h2]
    congr 1
    · funext g args σ
      exact callW_eq _ _ _ _ _
    · funext b fr σ
      exact loopK_eq n fr σ

/-- A closed run. -/
noncomputable def runK (C : Cfg) (n : Nat) (g : FuncId) (args : List V) (σ : Mem) : Option (V × Mem) := (envK C n 0).call g args σ

/-- Does a closed run give just that? -/
noncomputable def gives (C : Cfg) (n : Nat) (g : FuncId) (args : List V) (σ : Mem) (v : V) (σ' : Mem) : Bool :=
  match runK C n g args σ with
  | some (x, s) => x.same v && sameM s σ'
  | none => false

theorem CallTo.closed {C : Cfg} {g : FuncId} {args : List V} {σ : Mem} {v : V} {σ' : Mem} (n : Nat) (h : gives C n g args σ v σ' = true) : CallTo C g args σ v σ' := by
  unfold gives at h
  split at h
  · rename_i x s hr
    rw [Bool.and_eq_true] at h
    refine ⟨n, x, s, ?_, V.same_eq h.1, sameM_eq h.2⟩
    unfold runK at hr
    rw [envK_eq] at hr
    exact hr
  · cases h
end MI
namespace MI
open Go
def testO {α : Type} (o : Option α) (t : α → Bool) : Bool :=
  match o with
  | some r => t r
  | none => false
/-- The rest of a run by the kernel. -/
theorem Runs.closed {C : Cfg} {f : FuncId} {α : Type} {a : Ask α} {Q : α → Prop} (n : Nat) (t : α → Bool) (h : testO (a.run (envK C n f)) t = true) (hq : ∀ r, t r = true → Q r) : Runs C f a Q := by
  cases hr : a.run (envK C n f) with
  | none => rw [hr] at h; cases h
  | some r =>
    rw [hr] at h
    rw [envK_eq] at hr
    exact ⟨n, r, hr, hq r h⟩

/-- A body comes back with just that. -/
def comes (C : Cfg) (f : FuncId) (fn : Func) (v : V) (σ : Mem) (r : Res) : Bool :=
  match backF C f fn r with
  | some y => y.1.same v && sameM y.2 σ
  | none => false
theorem comes_ok {C : Cfg} {f : FuncId} {fn : Func} {v : V} {σ : Mem} {r : Res} (h : comes C f fn v σ r = true) : backF C f fn r = some (v, σ) := by
  unfold comes at h
  split at h
  · rename_i y hy
    rw [Bool.and_eq_true] at h
    rw [hy, ← V.same_eq h.1, ← sameM_eq h.2]
  · cases h

def comesLow (C : Cfg) (f : FuncId) (fn : Func) (v : V) (r : Res) : Bool :=
  match backF C f fn r with
  | some y => y.1.same v
  | none => false
/-- The rest of a body by the kernel: it comes back with a value that leads nowhere into memory. -/
theorem Runs.closedLow {C : Cfg} {f : FuncId} {fn : Func} {a : Ask Res} {σ : Mem} {P : V → Mem → Prop} (n : Nat) (v : V) (h : testO (a.run (envK C n f)) (comesLow C f fn v) = true) (hv : v.low 0 = true) (hq : P v σ) :
    Runs C f a fun r => ∃ y, backF C f fn r = some y ∧ P (backLow σ y).1 (backLow σ y).2 := by
  refine Runs.closed n (comesLow C f fn v) h fun r hr => ?_
  unfold comesLow at hr
  split at hr
  · rename_i y hy
    have e := V.same_eq hr
    refine ⟨y, hy, ?_⟩
    unfold backLow
    rw [e, hv]
    exact hq
  · cases hr
end MI

namespace MI
open Go

/-! ### From what a row reads to the interpreter's values -/

/-- Fields lie side by side. -/
def contig (C : Cfg) : Nat → List Field → Nat → Bool
  | off, [], n => Nat.beq off n
  | off, f :: r, n => Nat.beq f.offset off && (match C.siz f.type with | some k => contig C (off + k) r n | none => false)

/-- Is a type plain data, so deep at most: bools, integers, strings, slices, structs and arrays of such? -/
def plainT (C : Cfg) : Nat → TypeId → Bool
  | 0, _ => false
  | d + 1, t =>
    match C.und t, C.siz t with
    | some .bool, some 1 => true
    | some (.int _), some 1 => true
    | some .string, some 1 => true
    | some (.slice e), some 1 => plainT C d e && (match C.siz e with | some (_ + 1) => true | _ => false) && (match isAggT C e, C.siz e with | some true, _ => true | some false, some 1 => true | _, _ => false)
    | some (.struct fs), some n => contig C 0 fs.toList n && fs.toList.all fun f => plainT C d f.type
    | some (.array n e), some m => plainT C d e && (match C.siz e with | some k => Nat.beq m (n * k) | none => false)
    | _, _ => false

def packV (C : Cfg) (e : TypeId) (us : List V) : V :=
  match isAggT C e with
  | some true => .agg us
  | _ => us.headD .junk

def WTF (p : TypeId → List V → Prop) : List Field → List V → Prop
  | [], vs => vs = []
  | f :: r, vs => ∃ a b, vs = a ++ b ∧ p f.type a ∧ WTF p r b

def WTA (p : List V → Prop) : Nat → List V → Prop
  | 0, vs => vs = []
  | n + 1, vs => ∃ a b, vs = a ++ b ∧ p a ∧ WTA p n b

/-- The cells of a value of a type. -/
def WT (C : Cfg) : Nat → TypeId → List V → Prop
  | 0, _, _ => False
  | d + 1, t, vs => match C.und t with
    | some .bool => ∃ b, vs = [.bool b]
    | some (.int k) => ∃ n, vs = [.int k n] ∧ k.min ≤ n ∧ n ≤ k.max
    | some .string => ∃ s, vs = [.str s] ∧ s.length ≤ maxLen
    | some (.slice e) => ∃ xs, vs = [.row xs] ∧ xs.length ≤ maxLen ∧ ∀ x ∈ xs, ∃ us, WT C d e us ∧ x = packV C e us
    | some (.struct fs) => WTF (WT C d) fs.toList vs
    | some (.array n e) => WTA (WT C d e) n vs
    | _ => False

mutual
/-- The cells of plain data without slices. -/
def flatD {H : Type} : DataW H → Option (List V)
  | .lit (.bool b) => some [.bool b]
  | .lit (.int k n) => some [.int k n]
  | .lit (.string s) => some [.str s]
  | .agg ds => flatDL ds
  | _ => none
def flatDL {H : Type} : List (DataW H) → Option (List V)
  | [] => some []
  | d :: r => match flatD d, flatDL r with
    | some a, some b => some (a ++ b)
    | _, _ => none
end

section
variable {C : Cfg} {H : Type} {enc : TypeId × Value → H} {w : World} {spare : Nat → Bool} {held : Bool}

theorem siz_cellsOf (hS : Good C) {t : TypeId} {n : Nat} (h : C.siz t = some n) : C.P.cellsOf t = n := by
  obtain ⟨i, e1, e2, _⟩ := hS.siz t n h
  simp [Program.cellsOf, e1, e2]

/-- What is read of cells. -/
def ReadOK {H : Type} (C : Cfg) (w : World) (d : Nat) (t : TypeId) (cs : List Value) (x : DataW H) : Prop :=
  ∃ vs, RelL C w.cell? [] vs cs ∧ oneL vs = true ∧ WT C d t vs ∧ vs.length = C.P.cellsOf t ∧ ∀ us, flatD x = some us → vs = us

theorem cells_get {a : Addr} {n : Nat} {cs : List Value} (h : w.cells? 0 a n = some cs) : cs.length = n ∧ ∀ j, j < n → w.cell? (a.add j) = cs[j]? := by
  unfold World.cells? at h
  simp only [Nat.zero_le, if_true] at h
  refine ⟨by have := mapM_some_length h; simpa using this, fun j hj => ?_⟩
  exact mapM_some_get h j j (by simp [hj])

theorem spot_of_cell {a : Addr} {v : Value} (h : w.cell? a = some v) : a.spot = none := by
  unfold World.cell? at h
  split at h
  · split at h
    · cases h
    · rename_i hs
      cases hsp : a.spot with
      | none => rfl
      | some x => rw [hsp] at hs; simp at hs
  · cases h

theorem add_none {a : Addr} (h : a.spot = none) (n : Nat) : a.add n = ⟨a.block, a.off + n, none⟩ := by
  unfold Addr.add
  split
  · rename_i hn
    subst hn
    cases a
    simp only at h
    subst h
    rfl
  · rfl

theorem oneL_append' (a b : List V) (ha : oneL a = true) (hb : oneL b = true) : oneL (a ++ b) = true := by rw [oneL_append, ha, hb]; rfl

theorem pack_cells {e : TypeId} {us : List V} (h1 : oneL us = true) (hagg : ∃ agg, isAggT C e = some agg ∧ (agg = true ∨ us.length = 1)) : (packV C e us).cells = us := by
  obtain ⟨agg, e1, e2⟩ := hagg
  unfold packV
  rw [e1]
  cases agg with
  | true => rfl
  | false =>
    rcases e2 with e2 | e2
    · cases e2
    · match us, e2, h1 with
      | [v], _, h1 =>
        simp only [oneL, Bool.and_true] at h1
        exact V.one_cells h1

/-- Rows. -/
theorem rows_ok {d k : Nat} {e : TypeId} {b o : Nat} (hk : C.P.cellsOf e = k) (hagg : ∃ agg, isAggT C e = some agg ∧ (agg = true ∨ k = 1)) : ∀ (n m : Nat), (∀ i, i < n → ∃ cs, cs.length = k ∧ (∀ j, j < k → w.cell? ⟨b, o + (m + i) * k + j, none⟩ = cs[j]?) ∧ ∃ x : DataW H, ReadOK C w d e cs x) →
    ∃ xs cvs, xs.length = n ∧ Holds w.cell? b (o + m * k) cvs ∧ RelL C w.cell? [] (flatV xs) cvs ∧ oneL (flatV xs) = true ∧ ∀ x ∈ xs, x.cells.length = k ∧ ∃ us, WT C d e us ∧ x = packV C e us
  | 0, m, _ => ⟨[], [], rfl, fun j c h => by simp at h, .nil, rfl, fun x hx => by simp at hx⟩
  | n + 1, m, h => by
    obtain ⟨cs, h1, h2, _, us, h3, h4, h5, h6, _⟩ := h 0 (by omega)
    obtain ⟨xs, cvs, g1, g2, g3, g4, g5⟩ := rows_ok hk hagg n (m + 1) fun i hi => by
      obtain ⟨cs, q1, q2, q3⟩ := h (i + 1) (by omega)
      exact ⟨cs, q1, fun j hj => by rw [← q2 j hj, show m + (i + 1) = m + 1 + i from by omega], q3⟩
    have hp : (packV C e us).cells = us := pack_cells h4 (by
      obtain ⟨agg, a1, a2⟩ := hagg
      exact ⟨agg, a1, a2.imp id fun hk1 => by rw [h6, hk, hk1]⟩)
    refine ⟨packV C e us :: xs, cs ++ cvs, by simp [g1], fun j c hj => ?_, ?_, ?_, fun x hx => ?_⟩
    · rcases Nat.lt_or_ge j cs.length with hl | hl
      · rw [List.getElem?_append_left hl] at hj
        have := h2 j (by omega)
        rw [hj] at this
        rw [← this]
        simp
      · rw [List.getElem?_append_right hl] at hj
        have := g2 (j - cs.length) c hj
        rw [← this]
        congr 2
        rw [h1] at hl ⊢
        rw [Nat.succ_mul]
        omega
    · simp only [flatV, hp]
      exact h3.append g3
    · simp only [flatV, hp]
      exact oneL_append' _ _ h4 g4
    · rcases List.mem_cons.1 hx with rfl | hx
      · exact ⟨by rw [hp, h6, hk], us, h5, rfl⟩
      · exact g5 x hx

theorem fields_ok {d : Nat} {total : Nat} {cs : List Value} (hlen : cs.length = total) (hS : Good C) : ∀ (fs : List Field) (ds : List (DataW H)) (off : Nat), contig C off fs total = true → ds.length = fs.length →
    (∀ (i : Nat) f x, fs[i]? = some f → ds[i]? = some x → ReadOK C w d f.type ((cs.drop f.offset).take (C.P.cellsOf f.type)) x) → ∃ vs, RelL C w.cell? [] vs (cs.drop off) ∧ oneL vs = true ∧ WTF (WT C d) fs vs ∧ ∀ us, flatDL ds = some us → vs = us
  | [], [], off, hc, _, _ => by
    simp only [contig, Nat.beq_eq] at hc
    refine ⟨[], ?_, rfl, rfl, fun us h => by simpa [flatDL] using h⟩
    rw [List.drop_eq_nil_of_le (by omega)]
    exact .nil
  | [], _ :: _, _, _, hl, _ => by simp at hl
  | _ :: _, [], _, _, hl, _ => by simp at hl
  | f :: r, x :: ds, off, hc, hl, h => by
    simp only [contig, Bool.and_eq_true, Nat.beq_eq] at hc
    obtain ⟨h1, h2⟩ := hc
    split at h2
    · rename_i k hk
      obtain ⟨us, u1, u2, u3, u4, u5⟩ := h 0 f x (by simp) (by simp)
      obtain ⟨vs, v1, v2, v3, v4⟩ := fields_ok hlen hS r ds (off + k) h2 (by simpa using hl) fun i g y hg hy => h (i + 1) g y (by simpa using hg) (by simpa using hy)
      rw [siz_cellsOf hS hk, h1] at u1
      refine ⟨us ++ vs, ?_, oneL_append' _ _ u2 v2, ⟨us, vs, rfl, u3, v3⟩, fun zs hz => ?_⟩
      · have := u1.append v1
        rw [show cs.drop (off + k) = (cs.drop off).drop k from by rw [List.drop_drop], List.take_append_drop] at this
        exact this
      · simp only [flatDL] at hz
        split at hz
        · rename_i a b ha hb
          cases hz
          rw [u5 a ha, v4 b hb]
        · cases hz
    · cases h2

theorem array_ok {d k : Nat} {e : TypeId} {cs : List Value} : ∀ (n m : Nat) (ds : List (DataW H)), ds.length = n → cs.length = (m + n) * k → (∀ i x, ds[i]? = some x → ReadOK C w d e ((cs.drop ((m + i) * k)).take k) x) → ∃ vs, RelL C w.cell? [] vs (cs.drop (m * k)) ∧ oneL vs = true ∧ WTA (WT C d e) n vs ∧ ∀ us, flatDL ds = some us → vs = us
  | 0, m, [], _, hl, _ => by
    refine ⟨[], ?_, rfl, rfl, fun us h => by simpa [flatDL] using h⟩
    rw [List.drop_eq_nil_of_le (by rw [hl]; simp)]
    exact .nil
  | 0, _, _ :: _, h, _, _ => by simp at h
  | _ + 1, _, [], h, _, _ => by simp at h
  | n + 1, m, x :: ds, hd, hl, h => by
    obtain ⟨us, u1, u2, u3, _, u5⟩ := h 0 x (by simp)
    obtain ⟨vs, v1, v2, v3, v4⟩ := array_ok n (m + 1) ds (by simpa using hd) (by rw [hl]; congr 1; omega) fun i y hy => by
      have := h (i + 1) y (by simpa using hy)
      rw [show m + (i + 1) = m + 1 + i from by omega] at this
      exact this
    refine ⟨us ++ vs, ?_, oneL_append' _ _ u2 v2, ⟨us, vs, rfl, u3, v3⟩, fun zs hz => ?_⟩
    · have := u1.append v1
      rw [Nat.add_zero, show cs.drop ((m + 1) * k) = (cs.drop (m * k)).drop k from by rw [List.drop_drop, Nat.succ_mul], List.take_append_drop] at this
      exact this
    · simp only [flatDL] at hz
      split at hz
      · rename_i a b ha hb
        cases hz
        rw [u5 a ha, v4 b hb]
      · cases hz

theorem trod_struct {fuel : Nat} {t : TypeId} {fs : Array Field} (hu : C.P.underlying t = some (.struct fs)) (cs : List Value) : DataW.trod enc C.P w 0 spare held (fuel + 1) t cs =
    if cs.length = C.P.cellsOf t then (fs.toList.mapM fun f => DataW.trod enc C.P w 0 spare held fuel f.type ((cs.drop f.offset).take (C.P.cellsOf f.type))).map fun xs => (.agg (xs.map (·.1)), xs.flatMap (·.2)) else none := by
  conv => lhs; unfold DataW.trod
  rw [hu]

theorem trod_arr {fuel : Nat} {t : TypeId} {n : Nat} {e : TypeId} (hu : C.P.underlying t = some (.array n e)) (cs : List Value) : DataW.trod enc C.P w 0 spare held (fuel + 1) t cs =
    if cs.length = C.P.cellsOf t then ((List.range n).mapM fun i => DataW.trod enc C.P w 0 spare held fuel e ((cs.drop (i * C.P.cellsOf e)).take (C.P.cellsOf e))).map fun xs => (.agg (xs.map (·.1)), xs.flatMap (·.2)) else none := by
  conv => lhs; unfold DataW.trod
  rw [hu]

/-- What is read is so. -/
theorem read_ok (hS : Good C) : ∀ (d : Nat) (t : TypeId), plainT C d t = true → ∀ (fuel : Nat) (cs : List Value) (x : DataW H) (ps : List MemPlace), DataW.trod enc C.P w 0 spare held fuel t cs = some (x, ps) → ReadOK C w d t cs x
  | 0, _, h => by cases h
  | d + 1, t, hp => by
    intro fuel cs x ps h
    cases fuel with
    | zero => cases h
    | succ fuel =>
      unfold plainT at hp
      split at hp
      · rename_i hu hs
        unfold DataW.trod at h
        rw [hS.und t _ hu] at h
        split at h <;> first | cases h | skip
        all_goals (rename_i e1; cases e1)
        exact ⟨[.bool _], .cons _ _ _ _ (.bool _) .nil, rfl, by unfold WT; rw [hu]; exact ⟨_, rfl⟩, by rw [siz_cellsOf hS hs]; rfl, fun us h => by simpa [flatD] using h⟩
      · rename_i k hu hs
        unfold DataW.trod at h
        rw [hS.und t _ hu] at h
        split at h <;> first | cases h | skip
        all_goals (rename_i e1; cases e1)
        split at h
        · rename_i hk
          obtain ⟨rfl, hw⟩ := hk
          simp only [Lit.wf, Bool.and_eq_true, decide_eq_true_eq] at hw
          cases h
          exact ⟨[.int _ _], .cons _ _ _ _ (.int _ _) .nil, rfl, by unfold WT; rw [hu]; exact ⟨_, rfl, hw.1, hw.2⟩, by rw [siz_cellsOf hS hs]; rfl, fun us h => by simpa [flatD] using h⟩
        · cases h
      · rename_i hu hs
        unfold DataW.trod at h
        rw [hS.und t _ hu] at h
        split at h <;> first | cases h | skip
        all_goals (rename_i e1; cases e1)
        split at h
        · rename_i s hl
          cases h
          exact ⟨[.str s.data.toList], .cons _ _ _ _ (.str s) .nil, rfl, by unfold WT; rw [hu]; exact ⟨_, rfl, by simpa using hl⟩, by rw [siz_cellsOf hS hs]; rfl, fun us h => by simpa [flatD] using h⟩
        · cases h
      · rename_i e hu hs
        unfold DataW.trod at h
        rw [hS.und t _ hu] at h
        simp only [Bool.and_eq_true] at hp
        obtain ⟨⟨hpe, hpk⟩, hagg⟩ := hp
        obtain ⟨k, hk⟩ : ∃ k, C.siz e = some (k + 1) := by
          split at hpk
          · rename_i k hk; exact ⟨k, hk⟩
          · cases hpk
        have hcell := siz_cellsOf hS hk
        have hagg' : ∃ agg, isAggT C e = some agg ∧ (agg = true ∨ k + 1 = 1) := by
          split at hagg
          · rename_i ha; exact ⟨true, ha, .inl rfl⟩
          · rename_i ha hb
            exact ⟨false, ha, .inr (Option.some.inj (hk.symm.trans hb))⟩
          · cases hagg
        split at h <;> first | cases h | skip
        all_goals (rename_i e1; cases e1)
        · -- nil
          exact ⟨[.row []], .cons _ _ _ _ (.rowNil none 0) .nil, rfl, by unfold WT; rw [hu]; exact ⟨[], rfl, by simp, fun x hx => by simp at hx⟩, by rw [siz_cellsOf hS hs]; rfl, fun us h => by simp [flatD] at h⟩
        · rename_i a len cap
          simp only at h
          split at h
          · rename_i hb
            obtain ⟨_, hlc, hcm⟩ := hb
            obtain ⟨elems, he, h⟩ := Option.bind_eq_some_iff.1 h
            have hel : ∀ i, i < len → ∃ cs, w.cells? 0 (a.add (i * (k + 1))) (k + 1) = some cs ∧ ∃ y qs, DataW.trod enc C.P w 0 spare held fuel e cs = some (y, qs) := fun i hi => by
              have := mapM_some_get he i i (by simp [hi])
              have hlen : elems.length = len := by have := mapM_some_length he; simpa using this
              rw [List.getElem?_eq_getElem (by omega)] at this
              obtain ⟨cs, c1, c2⟩ := Option.bind_eq_some_iff.1 this
              rw [hcell] at c1
              exact ⟨cs, c1, elems[i].1, elems[i].2, c2⟩
            have hslice : ∃ a b, x = .slice a b := by
              obtain ⟨rest, _, hx⟩ := Option.map_eq_some_iff.1 h
              exact ⟨_, _, (congrArg Prod.fst hx).symm⟩
            have hnf : ∀ us, flatD x = some us → False := fun us hq => by
              obtain ⟨a1, b1, rfl⟩ := hslice
              simp [flatD] at hq
            by_cases hl0 : len = 0
            · subst hl0
              exact ⟨[.row []], .cons _ _ _ _ (.rowNil _ _) .nil, rfl, by unfold WT; rw [hu]; exact ⟨[], rfl, by simp, fun x hx => by simp at hx⟩, by rw [siz_cellsOf hS hs]; rfl, fun us hq => (hnf us hq).elim⟩
            · have hspot : a.spot = none := by
                obtain ⟨cs, c1, _⟩ := hel 0 (by omega)
                have := (cells_get c1).2 0 (by omega)
                have hlen := (cells_get c1).1
                rw [List.getElem?_eq_getElem (by omega)] at this
                have h0 := spot_of_cell this
                simpa [Addr.add] using h0
              obtain ⟨xs, cvs, g1, g2, g3, g4, g5⟩ := rows_ok (C := C) (H := H) (w := w) (d := d) (b := a.block) (o := a.off) hcell hagg' len 0 fun i hi => by
                obtain ⟨cs, c1, y, qs, c2⟩ := hel i hi
                obtain ⟨q1, q2⟩ := cells_get c1
                refine ⟨cs, q1, fun j hj => ?_, y, read_ok hS d e hpe fuel cs y qs c2⟩
                rw [← q2 j hj, add_none hspot, add_none rfl, Nat.zero_add]
              have ha : a = ⟨a.block, a.off, none⟩ := by cases a; simp only at hspot; subst hspot; rfl
              refine ⟨[.row xs], .cons _ _ _ _ ?_ .nil, rfl, by unfold WT; rw [hu]; exact ⟨xs, rfl, by omega, fun x hx => (g5 x hx).2⟩, by rw [siz_cellsOf hS hs]; rfl, fun us hq => (hnf us hq).elim⟩
              rw [ha, ← g1]
              refine .row xs a.block a.off cap (k + 1) cvs (by omega) (fun x hx => (g5 x hx).1) g4 ?_ g3
              have := g2
              simpa using this
          · cases h
      · rename_i fs n hu hs
        rw [trod_struct (hS.und t _ hu)] at h
        simp only [Bool.and_eq_true, List.all_eq_true] at hp
        have hcell := siz_cellsOf hS hs
        split at h
        · rename_i hlen
          obtain ⟨xs, hx, hxx⟩ := Option.map_eq_some_iff.1 h
          have hlx := mapM_some_length hx
          obtain ⟨vs, v1, v2, v3, v4⟩ := fields_ok (C := C) (w := w) (d := d) hlen hS fs.toList (xs.map (·.1)) 0 (by rw [hcell]; exact hp.1) (by simpa using hlx) fun i f y hi hy => by
            have := mapM_some_get hx i f hi
            have hil : i < fs.toList.length := (List.getElem?_eq_some_iff.1 hi).1
            have hil2 : i < xs.length := by omega
            rw [List.getElem?_eq_getElem hil2] at this
            rw [List.getElem?_map, List.getElem?_eq_getElem hil2] at hy
            cases hy
            exact read_ok hS d f.type (hp.2 f (List.mem_of_getElem? hi)) fuel _ _ _ this
          refine ⟨vs, by simpa using v1, v2, by unfold WT; rw [hu]; exact v3, ?_, fun us hq => ?_⟩
          · rw [v1.length]; simpa using hlen
          · have he : x = .agg (xs.map (·.1)) := (congrArg Prod.fst hxx).symm
            subst he
            simp only [flatD] at hq
            exact v4 us hq
        · cases h
      · rename_i n e m hu hs
        rw [trod_arr (hS.und t _ hu)] at h
        simp only [Bool.and_eq_true] at hp
        have hcell := siz_cellsOf hS hs
        obtain ⟨k, hk, hnk⟩ : ∃ k, C.siz e = some k ∧ m = n * k := by
          have := hp.2
          split at this
          · rename_i k hk; exact ⟨k, hk, by simpa using this⟩
          · cases this
        split at h
        · rename_i hlen
          obtain ⟨xs, hx, hxx⟩ := Option.map_eq_some_iff.1 h
          have hlx := mapM_some_length hx
          rw [List.length_range] at hlx
          obtain ⟨vs, v1, v2, v3, v4⟩ := array_ok (C := C) (w := w) (d := d) (k := k) (e := e) n 0 (xs.map (·.1)) (by simpa using hlx) (by rw [hlen, hcell, hnk, Nat.zero_add]) fun i y hy => by
            have hil2 : i < xs.length := by
              rw [List.getElem?_map] at hy
              rcases Nat.lt_or_ge i xs.length with h1 | h1
              · exact h1
              · rw [List.getElem?_eq_none h1] at hy; cases hy
            have hin : i < n := by omega
            have := mapM_some_get hx i i (by simp [hin])
            rw [List.getElem?_eq_getElem hil2] at this
            rw [List.getElem?_map, List.getElem?_eq_getElem hil2] at hy
            cases hy
            rw [Nat.zero_add, ← siz_cellsOf hS hk]
            exact read_ok hS d e hp.1 fuel _ _ _ this
          refine ⟨vs, by simpa using v1, v2, by unfold WT; rw [hu]; exact v3, ?_, fun us hq => ?_⟩
          · rw [v1.length]; simpa using hlen
          · have he : x = .agg (xs.map (·.1)) := (congrArg Prod.fst hxx).symm
            subst he
            simp only [flatD] at hq
            exact v4 us hq
        · cases h
      · cases hp
end
end MI

namespace MI
open Go

/-! ### What is told of a function out of a contract of the kit's -/
section
variable {C : Cfg} {S : Nat → Prop} {K : Kf} {η : List Hist} {σ : Mem} {w w' : World} {xs : List Value}

theorem chg_below (h : RowKit.Below w.heap.size w w') : Chg (fun n => w.heap.size ≤ n) w w' :=
  ⟨h.os, h.tape, h.output, h.size, fun k hk _ => h.block k hk⟩

theorem ret_plain (hi : Inv C K S η σ w) {r : V} {x : Value} (hx : Rel C K η r x) (hown : ∀ e ys, r ≠ .own e ys) (hb : RowKit.Below w.heap.size w w') {T : Nat → Prop} (hT : ∀ n, w.heap.size ≤ n → T n) : Ret C S K η w T r σ x w' := by
  refine ⟨K, η, Kf.le_refl _, KIn.refl _ _, Hle.refl _, (chg_below hb).mono hT, ?_, FrOK.one hx hown, fun n hn => .inl hn, fun e ys g h => absurd h (hown e ys)⟩
  refine hi.world (Kf.le_refl _) (KIn.refl _ _) (chg_below hb) (fun n hn => by have := (hi.tlt n hn).1; omega) fun a v e => ?_
  rw [hb.cell (World.block_lt_of_cell? w a (hi.kf a v e))]
  exact hi.kf a v e

/-- A call without a body. -/
theorem calls_extern {f : FuncId} (hi : Inv C K S η σ w) {r : V} {x : Value} (hx : Rel C K η r x) (hown : ∀ e ys, r ≠ .own e ys) (h : (callFunc f xs.toArray).run C.P w = .ok (.value x) w) : CallsTo C f xs.toArray w (Ret C S K η w (fun n => w.heap.size ≤ n) r σ) :=
  .inl ⟨x, w, h, ret_plain hi hx hown (RowKit.Below.refl _ _) fun _ h => h⟩

theorem enter_any {f : FuncId} {fn : Func} (hf : C.P.funcs[f]? = some fn) (hb : fn.body.isSome = true) (hn : (fn.name == "runtime.NumGoroutine") = false) (args : Array Value) : (callFunc f args).run C.P w = .ok (.enter f args) w := by
  have h2 : fn.name ≠ "runtime.NumGoroutine" := by simpa using hn
  have hb' : fn.body ≠ none := fun e => by rw [e] at hb; cases hb
  simp [callFunc, hf, h2, hb']

/-- A call with a body, by its contract. -/
theorem calls_body {f : FuncId} {fn : Func} (hf : C.P.funcs[f]? = some fn) (hb : fn.body.isSome = true) (hn : (fn.name == "runtime.NumGoroutine") = false) (hi : Inv C K S η σ w) {r : V} {x : Value} (hx : Rel C K η r x) (hown : ∀ e ys, r ≠ .own e ys)
    (h : Calls C.P f xs.toArray w fun e w' => e = .returned x ∧ RowKit.Below w.heap.size w w') : CallsTo C f xs.toArray w (Ret C S K η w (fun n => w.heap.size ≤ n) r σ) :=
  .inr ⟨enter_any hf hb hn _, Calls.mono h fun e w' he => by
    obtain ⟨rfl, hb⟩ := he
    exact ret_plain hi hx hown hb fun _ h => h⟩

theorem size_list (l : List UInt8) : (⟨l.toArray⟩ : ByteArray).data.toList = l := by simp

/-- A row of texts. -/
theorem strs_of {ys : List V} : ∀ {cvs : List Value}, RelL C K η ys cvs → (∀ y ∈ ys, ∃ s, y = .str s) → ∃ bs : List ByteArray, cvs = bs.map .string ∧ ys = bs.map fun b => .str b.data.toList := by
  induction ys with
  | nil => intro cvs h _; cases h; exact ⟨[], rfl, rfl⟩
  | cons y r ih =>
    intro cvs h hs
    cases h with
    | cons _ x _ t h1 h2 =>
      obtain ⟨s, rfl⟩ := hs y (by simp)
      obtain ⟨b, rfl, rfl⟩ := rel_str h1
      obtain ⟨bs, rfl, e⟩ := ih h2 fun z hz => hs z (by simp [hz])
      exact ⟨b :: bs, rfl, by rw [e]; rfl⟩

theorem flatV_strs (bs : List ByteArray) : flatV (bs.map fun b => V.str b.data.toList) = bs.map fun b => V.str b.data.toList := by
  induction bs with
  | nil => rfl
  | cons b r ih => simp [flatV, V.cells, ih]
end
end MI

namespace MI
open Go

section
variable {C : Cfg}

/-- From the interpreter's word to the model's: a law that answers true. -/
theorem law_calls (hS : Good C) (hT : Told C) {f : FuncId} {fn : Func} (hf : C.fn f = some fn) (hb : fn.body.isSome = true) (hk : C.keep f = false) {args : Array Value} {vs : List V} {W : World} (hr : RelL C W.cell? [] vs args.toList) (hG : GlobOK C W.cell?)
    (h : CallTo C f vs [] (.bool true) []) : Calls C.P f args W fun e W' => e = .returned (.bool true) ∧ RowKit.Below W.heap.size W W' := by
  obtain ⟨n, x, s, h1, rfl, rfl⟩ := h
  have hi : Inv C W.cell? (fun n => W.heap.size ≤ n) [] [] W := ⟨fun _ _ e => e, rfl, fun l b hb => by simp at hb, fun l l' b b' h h' n r n' r' _ hb => by simp at hb, fun n hn => by obtain ⟨l, h, g, r, e, _⟩ := hn; simp at e, fun l b h hb => by simp at hb⟩
  have := (env_ok hS hT n).1 0 f vs [] _ _ h1 W.cell? (fun n => W.heap.size ≤ n) [] W args.toList hi (fun _ h => h) hG hr (fun e => by rw [hk] at e; cases e)
  rw [Array.toArray_toList] at this
  rcases this with ⟨x, w', h2, _⟩ | ⟨_, h2⟩
  · rw [enter_run hS hT hf hb args] at h2
    cases h2
  · refine Calls.mono h2 fun e w' he => ?_
    cases e with
    | returned x =>
      obtain ⟨K', η', r1, r2, r3, r4, r5, r6, r7, r8⟩ := he
      have hx : x = .bool true := by cases r6.rel with | cons _ _ _ _ hh _ => exact rel_bool hh
      subst hx
      have hT : ∀ n, CallS (C.keep f) [] vs args.toList W n → W.heap.size ≤ n := by
        rw [hk]
        rintro n (h | ⟨h, _⟩ | ⟨_, h⟩)
        · exact h
        · cases h
        · obtain ⟨l, h, g, r, e, _⟩ := h
          simp at e
      have hc := r4.mono hT
      exact ⟨rfl, hc.os, hc.tape, hc.output, hc.size, fun k hk => hc.block k hk (by omega)⟩
    | _ => exact he.elim

/-- A listed variable. -/
theorem glob_one (hS : Good C) {W : World} {name : String} {g : Nat} {t : TypeId} {cs : Array Value} {D : DataW Unit} {fuel : Nat} {p : List MemPlace} (hg : C.P.globalNamed name = some g) (hv : W.var? C.P name = some cs) (hd : DataW.trod (fun _ => ()) C.P W 0 (fun _ => true) false fuel t cs.toList = some (D, p))
    (d : Nat) (hp : plainT C d t = true) {v : V} (hf : flatD D = some v.cells) (h1 : oneL v.cells = true) : ∃ cvs, Holds W.cell? g 0 cvs ∧ RelL C W.cell? [] v.cells cvs ∧ oneL v.cells = true := by
  obtain ⟨vs, r1, _, _, _, r5⟩ := read_ok hS d t hp fuel cs.toList D p hd
  rw [r5 _ hf] at r1
  refine ⟨cs.toList, fun j c hj => ?_, r1, h1⟩
  rw [World.var?_cell hg hv]
  simpa using hj

/-- Arguments that are plain data. -/
theorem args_ok (hS : Good C) {H : Type} {enc : TypeId × Value → H} {W : World} {spare : Nat → Bool} {held : Bool} (d : Nat) : ∀ {ts : List TypeId} {xs : List Value} {ds : List (DataW H)} {ps : List MemPlace}, DataW.TrodAll enc C.P W 0 spare held ts xs ds ps → (ts.all (plainT C d)) = true →
    ∃ vss : List (List V), vss.length = ts.length ∧ (∀ (i : Nat) (t : TypeId) (us : List V), ts[i]? = some t → vss[i]? = some us → WT C d t us ∧ us.length = C.P.cellsOf t ∧ oneL us = true) ∧ ∀ (i : Nat) (us : List V) (x : Value), vss[i]? = some us → xs[i]? = some x → RelL C W.cell? [] us x.cells.toList
  | [], [], [], ps, _, _ => ⟨[], rfl, fun i t us h => by simp at h, fun i us x h => by simp at h⟩
  | t :: ts, x :: xs, y :: ds, ps, h, hp => by
    obtain ⟨p, q, ⟨fuel, h1⟩, h2, _⟩ := h
    simp only [List.all_cons, Bool.and_eq_true] at hp
    obtain ⟨us, r1, r2, r3, r4, _⟩ := read_ok hS d t hp.1 fuel _ y p h1
    obtain ⟨vss, s1, s2, s3⟩ := args_ok hS d h2 hp.2
    refine ⟨us :: vss, by simp [s1], fun i t' us' ht hu => ?_, fun i us' x' hu hx => ?_⟩
    · cases i with
      | zero => simp at ht hu; subst ht; subst hu; exact ⟨r3, r4, r2⟩
      | succ i => exact s2 i t' us' (by simpa using ht) (by simpa using hu)
    · cases i with
      | zero => simp at hu hx; subst hu; subst hx; exact r1
      | succ i => exact s3 i us' x' (by simpa using hu) (by simpa using hx)
  | [], [], _ :: _, _, h, _ => h.elim
  | [], _ :: _, _, _, h, _ => h.elim
  | _ :: _, [], _, _, h, _ => h.elim
  | _ :: _, _ :: _, [], _, h, _ => h.elim

theorem trod_lens {H : Type} {enc : TypeId × Value → H} {P : Program} {W : World} {spare : Nat → Bool} {held : Bool} : ∀ {ts : List TypeId} {xs : List Value} {ds : List (DataW H)} {ps : List MemPlace}, DataW.TrodAll enc P W 0 spare held ts xs ds ps → xs.length = ts.length ∧ ds.length = ts.length
  | [], [], [], _, _ => ⟨rfl, rfl⟩
  | t :: ts, x :: xs, d :: ds, _, h => by
    obtain ⟨_, _, _, h2, _⟩ := h
    have := trod_lens h2
    simp [this.1, this.2]
  | [], [], _ :: _, _, h => h.elim
  | [], _ :: _, _, _, h => h.elim
  | _ :: _, [], _, _, h => h.elim
  | _ :: _, _ :: _, [], _, h => h.elim

/-- One argument. -/
theorem arg_rel (hS : Good C) {K : Kf} {w : World} {d : Nat} {t : TypeId} {x : Value} {us : List V} {r : Reach} {b0 : Nat} (hp : plainT C d t = true) (hval : Value.okWide C.P w r b0 t x) (h : RelL C K [] us x.cells.toList) : Rel C K [] (packV C t us) x := by
  cases d with
  | zero => cases hp
  | succ d =>
    have one : isAggT C t = some false → (∀ cs, x.cells = cs → cs = #[x]) → Rel C K [] (packV C t us) x := fun ha hx => by
      have := hx _ rfl
      rw [this] at h
      cases h with
      | cons v _ _ _ h1 h2 =>
        cases h2
        unfold packV
        rw [ha]
        exact h1
    unfold plainT at hp
    split at hp
    · rename_i hu hs
      obtain ⟨b, rfl⟩ := WideShapes.okWide_bool (hS.und t _ hu) hval
      exact one (by simp [isAggT, hu]) (fun cs h => h.symm)
    · rename_i k hu hs
      obtain ⟨b, rfl⟩ := WideShapes.okWide_int (hS.und t _ hu) hval
      exact one (by simp [isAggT, hu]) (fun cs h => h.symm)
    · rename_i hu hs
      obtain ⟨b, rfl⟩ := WideShapes.okWide_string (hS.und t _ hu) hval
      exact one (by simp [isAggT, hu]) (fun cs h => h.symm)
    · rename_i e hu hs
      obtain ⟨a, b, c, rfl⟩ := WideShapes.okWide_slice (hS.und t _ hu) hval
      exact one (by simp [isAggT, hu]) (fun cs h => h.symm)
    · rename_i fs n hu hs
      simp only [Value.okWide, hS.und t _ hu] at hval
      obtain ⟨cs, rfl, _⟩ := hval
      unfold packV
      rw [show isAggT C t = some true by simp [isAggT, hu]]
      exact .agg _ _ h
    · rename_i n e m hu hs
      simp only [Value.okWide, hS.und t _ hu] at hval
      obtain ⟨cs, rfl, _⟩ := hval
      unfold packV
      rw [show isAggT C t = some true by simp [isAggT, hu]]
      exact .agg _ _ h
    · cases hp

/-- Rows of values of one make. -/
theorem rows_of {α : Type} {f : α → V} {p : V → Prop} (hp : ∀ v, p v → ∃ a, v = f a) : ∀ {xs : List V}, (∀ x ∈ xs, p x) → ∃ as : List α, xs = as.map f
  | [], _ => ⟨[], rfl⟩
  | x :: r, h => by
    obtain ⟨a, rfl⟩ := hp x (h x (by simp))
    obtain ⟨as, rfl⟩ := rows_of hp (xs := r) fun y hy => h y (by simp [hy])
    exact ⟨a :: as, rfl⟩

theorem wta_bytes {p : List V → Prop} (hp : ∀ vs, p vs → ∃ b : UInt8, vs = [byteV b]) : ∀ (n : Nat) {us : List V}, WTA p n us → ∃ q : Nat → UInt8, us = (List.range n).map fun i => byteV (q i)
  | 0, us, h => ⟨fun _ => 0, h⟩
  | n + 1, us, h => by
    obtain ⟨a, b, rfl, h1, h2⟩ := h
    obtain ⟨x, rfl⟩ := hp a h1
    obtain ⟨q, rfl⟩ := wta_bytes hp n h2
    refine ⟨fun i => match i with
      | 0 => x
      | i + 1 => q i, ?_⟩
    rw [List.range_succ_eq_map]
    simp

/-- What is behind the call, where nothing that was has turned. -/
theorem law_post {H : Type} {enc : TypeId × Value → H} {P : Program} {f : Func} {s : ChangeSpec} {W W' : World} {args : Array Value} {ds gs : List (DataW H)} {before : List MemPlace} (hl : laidOutB P = true) (hv : s.vars = []) (hr : ∀ t ∈ f.params.toList, P.readableRec t = true ∧ t < P.types.size)
    (hW : DataW.Whole enc P f.params.toList s.vars false W args.toList ds gs before) (hb : RowKit.Below W.heap.size W W')
    (hres : (s.fn H (ds ++ gs)).results = [.lit (.bool true)]) (hargs : (s.fn H (ds ++ gs)).args = ds) (hvars : (s.fn H (ds ++ gs)).vars = []) {bt : TypeId} (hrt : f.resultTypes = #[bt]) (hbt : P.underlying bt = some .bool) :
    s.post enc P f false true false false W args (.bool true) W' := by
  have hW' := hW
  obtain ⟨p, q, hA, hV, rfl, hfz, hnd⟩ := hW'
  have hlt := hW.lt
  refine ⟨ds, gs, p ++ q, [], p, [], hW, ?_, ?_, ?_, hb.frame _, fun h => by cases h⟩
  · rw [hres, hrt]
    exact ChangeShapes.trodAll_mk1 (RowKit.shut_bool hbt true)
  · rw [hargs]
    have key : ∀ {ts : List TypeId} {xs : List Value} {es : List (DataW H)} {ps : List MemPlace}, DataW.TrodAll enc P W 0 (fun _ => true) true ts xs es ps → (∀ t ∈ ts, P.readableRec t = true ∧ t < P.types.size) → (∀ x ∈ ps, x.block < W.heap.size) → DataW.TrodAll enc P W' 0 (fun b => decide (b < W.heap.size)) true ts xs es ps := by
      intro ts
      induction ts with
      | nil =>
        intro xs es ps h _ _
        cases xs with
        | nil => cases es with
          | nil => exact h
          | cons _ _ => exact h.elim
        | cons _ _ => exact h.elim
      | cons t ts ih =>
        intro xs es ps h hr hlt
        cases xs with
        | nil => exact h.elim
        | cons x xs =>
          cases es with
          | nil => exact h.elim
          | cons e es =>
            obtain ⟨p1, q1, h1, h2, rfl⟩ := h
            have ht := hr t (by simp)
            exact ⟨p1, q1, RowKit.Below.trod hl ht.1 ht.2 h1 hb fun x hx => hlt x (by simp [hx]), ih h2 (fun t ht => hr t (by simp [ht])) fun x hx => hlt x (by simp [hx]), rfl⟩
    exact key hA hr fun x hx => hlt x (by simp [hx])
  · rw [hv, hvars]
    rfl
end
end MI

