/- Code, functions, calls: what the evaluator gives is what the model gives. -/
import Derived.Test.YtiiabmpobgoajaaGreatPartEvN
import Derived.Laws.StructEq
set_option linter.all false
namespace Go.Ev
open Go Go.RowKit

abbrev Lp := (Env → AHeap → Option (Ex × Env × AHeap)) → Env → AHeap → Option (Ex × Env × AHeap)

def exOf : Ex → Exit
  | .normal => .normal
  | .exit id => .exit id
  | .ret => .ret

/-- Drawn regions whose order is given are checked. -/
def okCode (C : Ctx) (dr : List (Nat × List (Nat × Cls))) : Code → Bool
  | .region id ops true => match assoc id dr with
    | some items => okDraw C ops items
    | none => true
  | .seq a b => okCode C dr a && okCode C dr b
  | .cond _ a b => okCode C dr a && okCode C dr b
  | .block _ b => okCode C dr b
  | .loop b => okCode C dr b
  | _ => true

def okFn (C : Ctx) (fi : FI) : Bool :=
  match fi.fn.body with
  | some c => okCode C fi.draws c
  | none => true

/-- Where code comes to. -/
def Got (B : Nat) (μ : Mu) (H : AHeap) (w : World) (d : List Deferred) (r : Ex × Env × AHeap) : Exit → Act → World → Prop :=
  fun e a' w' => e = exOf r.1 ∧ ∃ μ', EnvRel μ' r.2.1 a'.tmps ∧ a'.defers = d ∧ Went B μ H w μ' r.2.2 w'

def LpOk (lp : Lp) : Prop := ∀ f ρ H r, lp f ρ H = some r → ∃ n, loopN f n ρ H = some r

theorem wp_loop_ix {P : Program} {Q : Exit → Act → World → Prop} {c : Code} (I : Nat → Act → World → Prop) (zero : ∀ a w, ¬ I 0 a w)
    (round : ∀ n a w, I (n + 1) a w → c.wp P (Exit.then (I n) Q) a w) {n : Nat} {a : Act} {w : World} (h₀ : I n a w) : (Code.loop c).wp P Q a w := by
  intro b k cs
  have key : ∀ n a w, I n a w → ∃ e a' w', Q e a' w' ∧ Arrives P (lone (b.at a (.code c :: .inLoop c :: k)) cs w) b k cs e a' w' := by
    intro n
    induction n with
    | zero => intro a w hI; exact absurd hI (zero a w)
    | succ n ih =>
      intro a w hI
      obtain ⟨e, a₁, w₁, hq, harr⟩ := round n a w hI b (.inLoop c :: k) cs
      cases e with
      | normal =>
        obtain ⟨e₂, a₂, w₂, hq₂, harr₂⟩ := ih a₁ w₁ hq
        exact ⟨e₂, a₂, w₂, hq₂, .of_steps (Steps.trans harr (.one step_inLoop)) harr₂⟩
      | exit id => exact ⟨_, a₁, w₁, hq, .pass (x := .inLoop c) rfl (fun _ _ => .inl (by simp)) harr⟩
      | goto l => exact ⟨_, a₁, w₁, hq, .pass (x := .inLoop c) rfl (fun _ _ => .inl (by simp)) harr⟩
      | ret => exact ⟨_, a₁, w₁, hq, .pass (x := .inLoop c) rfl (fun _ _ => .inl (by simp)) harr⟩
      | panic ch => exact ⟨_, a₁, w₁, hq, .pass (x := .inLoop c) rfl (fun _ _ => .inl (by simp)) harr⟩
      | outgrown => exact ⟨_, a₁, w₁, hq, .pass (x := .inLoop c) rfl (fun _ _ => .inl (by simp)) harr⟩
  obtain ⟨e, a', w', hq, harr⟩ := key n a w h₀
  exact ⟨e, a', w', hq, .of_steps (.one step_loop) harr⟩

section
variable {P : Program} {C : Ctx} (hC : CtxOk P C) (hm : P.follows .mixedOrders = true) {call : Fun} (hcall : CallOk P C call) {lp : Lp} (hlp : LpOk lp)
  {dr : List (Nat × List (Nat × Cls))}

include hC hm hcall hlp
theorem evCode_sound : ∀ (c : Code) (ρ : Env) (H : AHeap) (r : Ex × Env × AHeap), okCode C dr c = true → evCode C dr call lp c ρ H = some r →
    ∀ (B : Nat) (μ : Mu) (w : World) (a : Act), WRel μ B H w → EnvRel μ ρ a.tmps → c.wp P (Got B μ H w a.defers r) a w := by
  intro c
  induction c with
  | skip =>
    intro ρ H r _ h B μ w a hW hE
    simp only [evCode, Option.some.injEq] at h
    subst h
    exact wp_skip ⟨rfl, μ, hE, rfl, .refl hW⟩
  | exit id =>
    intro ρ H r _ h B μ w a hW hE
    simp only [evCode, Option.some.injEq] at h
    subst h
    exact wp_exit ⟨rfl, μ, hE, rfl, .refl hW⟩
  | ret =>
    intro ρ H r _ h B μ w a hW hE
    simp only [evCode, Option.some.injEq] at h
    subst h
    exact wp_ret ⟨rfl, μ, hE, rfl, .refl hW⟩
  | region id ops dw =>
    intro ρ H r hok h B μ w a hW hE
    cases dw with
    | false =>
      simp only [evCode, Option.map_eq_some_iff] at h
      obtain ⟨⟨ρ', H'⟩, h, rfl⟩ := h
      refine wp_region ?_
      rw [List.range_eq_range']
      refine evOps_sound hC hcall ops.size 0 μ H w a ρ ρ' H' (by omega) hW hE (by simpa using h) fun μ' a' w' h1 h2 h3 => ⟨rfl, μ', h1, h2, h3⟩
    | true =>
      simp only [evCode, Option.bind_eq_some_iff, Option.map_eq_some_iff] at h
      obtain ⟨items, hi, ⟨ρ', H'⟩, h, rfl⟩ := h
      simp only [okCode, hi] at hok
      exact evDraw_sound hC hcall hm hok h hW hE fun μ' a' w' h1 h2 h3 => ⟨rfl, μ', h1, h2, h3⟩
  | seq x y ix iy =>
    intro ρ H r hok h B μ w a hW hE
    simp only [okCode, Bool.and_eq_true] at hok
    simp only [evCode, Option.bind_eq_some_iff] at h
    obtain ⟨⟨ex, ρ1, H1⟩, h1, h2⟩ := h
    refine wp_seq (wp_mono (ix ρ H _ hok.1 h1 B μ w a hW hE) fun e a' w' hg => ?_)
    obtain ⟨rfl, μ', g1, g2, g3⟩ := hg
    cases ex with
    | normal =>
      simp only at h2
      refine wp_mono (iy ρ1 H1 r hok.2 h2 B μ' w' a' g3.rel g1) fun e a2 w2 hg => ?_
      obtain ⟨rfl, μ2, k1, k2, k3⟩ := hg
      exact ⟨rfl, μ2, k1, by rw [k2, g2], g3.trans k3⟩
    | exit id =>
      simp only [Option.some.injEq] at h2
      subst h2
      exact ⟨rfl, μ', g1, g2, g3⟩
    | ret =>
      simp only [Option.some.injEq] at h2
      subst h2
      exact ⟨rfl, μ', g1, g2, g3⟩
  | cond c x y ix iy =>
    intro ρ H r hok h B μ w a hW hE
    simp only [okCode, Bool.and_eq_true] at hok
    simp only [evCode, Option.bind_eq_some_iff] at h
    obtain ⟨cv, hc, h⟩ := h
    have hcv := look_sound hE hc
    split at h
    · cases he : a.eval c <;> rw [he] at hcv <;> cases hcv
      exact wp_cond_true he (ix ρ H r hok.1 h B μ w a hW hE)
    · cases he : a.eval c <;> rw [he] at hcv <;> cases hcv
      exact wp_cond_false he (iy ρ H r hok.2 h B μ w a hW hE)
    · cases h
  | block id b ib =>
    intro ρ H r hok h B μ w a hW hE
    simp only [evCode, Option.map_eq_some_iff] at h
    obtain ⟨⟨ex, ρ1, H1⟩, h1, h2⟩ := h
    refine wp_block (wp_mono (ib ρ H _ hok h1 B μ w a hW hE) fun e a' w' hg => ?_)
    obtain ⟨rfl, μ', g1, g2, g3⟩ := hg
    cases ex with
    | normal => simp only at h2; subst h2; exact ⟨rfl, μ', g1, g2, g3⟩
    | ret => simp only at h2; subst h2; exact ⟨rfl, μ', g1, g2, g3⟩
    | exit i =>
      simp only at h2
      simp only [exOf, Exit.inBlock]
      by_cases hi : i = id
      · subst hi
        simp only [Nat.beq_refl, cond_true] at h2
        subst h2
        rw [if_pos rfl]; exact ⟨rfl, μ', g1, g2, g3⟩
      · rw [beq_false hi, cond_false] at h2
        subst h2
        rw [if_neg hi]; exact ⟨rfl, μ', g1, g2, g3⟩
  | loop b ib =>
    intro ρ H r hok h B μ w a hW hE
    simp only [evCode] at h
    obtain ⟨n, hn⟩ := hlp _ _ _ _ h
    refine wp_loop_ix (fun n a' w' => ∃ μ' ρ' H', EnvRel μ' ρ' a'.tmps ∧ a'.defers = a.defers ∧ Went B μ H w μ' H' w' ∧ loopN (evCode C dr call lp b) n ρ' H' = some r)
      (fun a' w' ⟨μ', ρ', H', _, _, _, h⟩ => by simp [loopN] at h) (fun n a1 w1 ⟨μ1, ρ1, H1, e1, e2, e3, e4⟩ => ?_) ⟨μ, ρ, H, hE, rfl, .refl hW, hn⟩
    simp only [loopN, Option.bind_eq_some_iff] at e4
    obtain ⟨⟨ex, ρ2, H2⟩, h1, h2⟩ := e4
    refine wp_mono (ib ρ1 H1 _ hok h1 B μ1 w1 a1 e3.rel e1) fun e a2 w2 hg => ?_
    obtain ⟨rfl, μ2, g1, g2, g3⟩ := hg
    cases ex with
    | normal => exact ⟨μ2, ρ2, H2, g1, by rw [g2, e2], e3.trans g3, h2⟩
    | exit id =>
      simp only [Option.some.injEq] at h2
      subst h2
      exact ⟨rfl, μ2, g1, by rw [g2, e2], e3.trans g3⟩
    | ret =>
      simp only [Option.some.injEq] at h2
      subst h2
      exact ⟨rfl, μ2, g1, by rw [g2, e2], e3.trans g3⟩
  | _ => intro ρ H r _ h; simp [evCode] at h
end

/-- A result's value. -/
def resGet (tmps : Array Value) : ResultVar → Sem Value
  | .tmp t => pure (tmps.getD t undef)
  | .cell a t => do loadVar t (← asAddr (tmps.getD a undef))

theorem results_eq (fn : Func) (tmps : Array Value) : results fn tmps = (do
    let vs ← fn.results.mapM (resGet tmps)
    pure (if h : vs.size = 1 then vs[0] else .tuple vs)) := by
  unfold results
  congr 1

section
variable {P : Program} {C : Ctx} (hC : CtxOk P C)
include hC
theorem resAll_sound {B : Nat} {μ : Mu} {H : AHeap} {w : World} {ρ : Env} {tmps : Array Value} (hW : WRel μ B H w) (hE : EnvRel μ ρ tmps) :
    ∀ (rs : List ResultVar) (vs : List Value), resAll C ρ H rs = some vs → ∃ vs', VRelL μ vs vs' ∧
      (rs.mapM (resGet tmps)).run P w = .ok vs' w
  | [], vs, h => by simp [resAll] at h; subst h; exact ⟨[], .nil, by simp⟩
  | r :: rs, vs, h => by
    simp only [resAll, Option.bind_eq_some_iff, Option.map_eq_some_iff] at h
    obtain ⟨v, hv, us, hu, rfl⟩ := h
    obtain ⟨us', g1, g2⟩ := resAll_sound hW hE rs us hu
    have got : ∀ {t : Tmp} {u : Value}, (ρ[t]?).join = some u → ∃ u', tmps.getD t undef = u' ∧ VRel μ u u' := fun {t u} hj => by
      have hg : ρ[t]? = some (some u) := by
        cases hx : ρ[t]? with
        | none => rw [hx] at hj; simp at hj
        | some y => rw [hx] at hj; simp at hj; rw [hj]
      obtain ⟨u', h1, h2⟩ := hE.get t u hg
      exact ⟨u', by rw [Array.getD_eq_getD_getElem?, h1]; rfl, h2⟩
    cases r with
    | tmp t =>
      simp only [resOf] at hv
      obtain ⟨v', e1, e2⟩ := got hv
      refine ⟨v' :: us', .cons e2 g1, ?_⟩
      rw [List.mapM_cons]
      simp only [resGet, Sem.run_bind, Sem.run_pure, Result.andThen_ok, e1]
      rw [g2]
      rfl
    | cell x t =>
      simp only [resOf, Option.bind_eq_some_iff] at hv
      obtain ⟨p, hp, hv⟩ := hv
      obtain ⟨p', e1, e2⟩ := got hp
      obtain ⟨v', _, ⟨ad, e3, e4⟩, e5⟩ := loadV_sound hC hW e2 hv
      refine ⟨v' :: us', .cons e5 g1, ?_⟩
      rw [List.mapM_cons]
      simp only [resGet, Sem.run_bind, e1, e3, asAddr, Sem.run_pure, Result.andThen_ok, e4]
      rw [g2]
      rfl

theorem resV_sound {B : Nat} {μ : Mu} {H : AHeap} {w : World} {ρ : Env} {tmps : Array Value} (hW : WRel μ B H w) (hE : EnvRel μ ρ tmps) {fn : Func} {v : Value} (h : resV C fn ρ H = some v) :
    ∃ v', (results fn tmps).run P w = .ok v' w ∧ VRel μ v v' := by
  simp only [resV, Option.map_eq_some_iff] at h
  obtain ⟨vs, h1, h2⟩ := h
  obtain ⟨vs', g1, g2⟩ := resAll_sound hC hW hE fn.results.toList vs h1
  have hrun : (results fn tmps).run P w = .ok (if h : vs'.length = 1 then vs'[0] else .tuple ⟨vs'⟩) w := by
    rw [results_eq, Array.mapM_eq_mapM_toList]
    simp only [Sem.run_bind, map_eq_pure_bind]
    rw [g2]
    simp
  refine ⟨_, hrun, ?_⟩
  cases vs with
  | nil =>
    have := g1.nil_right
    subst this
    simp only at h2
    subst h2
    exact .tuple' .nil
  | cons x xs =>
    cases xs with
    | nil =>
      obtain ⟨y, rfl, hr⟩ := g1.one
      simp only at h2
      subst h2
      simpa using hr
    | cons x2 xs =>
      simp only at h2
      subst h2
      have hl : ¬ vs'.length = 1 := by rw [← g1.length]; simp
      rw [dif_neg hl]
      exact .tuple' g1

end
end Go.Ev

namespace Go.Ev
open Go Go.RowKit

/-- All that is asked of the tables. -/
structure Good (P : Program) (C : Ctx) : Prop where
  base : CtxOk P C
  mixed : P.follows .mixedOrders = true
  fns : ∀ f fi, C.fn.get f = some fi → okFn C fi = true
  sum : ∀ f s, C.sum f = some s → C.same.contains f = false ∧ ∀ args H v H', s args H = some (v, H') → ∀ B μ w args', WRel μ B H w → VRelL μ args args' →
    Calls P f ⟨args'⟩ w fun e w' => ∃ μ' v', e = .returned v' ∧ VRel μ' v v' ∧ Went B μ H w μ' H' w'

theorem mkEnv_sound {μ : Mu} {args args' : List Value} (h : VRelL μ args args') (n : Nat) : EnvRel μ (mkEnv n args) ((⟨args'⟩ : Array Value) ++ Array.replicate (n - (⟨args'⟩ : Array Value).size) undef) := by
  have hl := h.length
  refine ⟨by simp [mkEnv, hl], fun t v hv => ?_⟩
  unfold mkEnv at hv
  by_cases ht : t < args.length
  · rw [List.getElem?_append_left (by simpa using ht)] at hv
    simp only [List.getElem?_map, Option.map_eq_some_iff, Option.some.injEq] at hv
    obtain ⟨u, hu, rfl⟩ := hv
    obtain ⟨u', h1, h2⟩ := h.get hu
    refine ⟨u', ?_, h2⟩
    rw [Array.getElem?_append_left (by simp; omega)]
    simpa using h1
  · rw [List.getElem?_append_right (by simpa using ht)] at hv
    have hv2 := hv
    rw [List.getElem?_replicate] at hv
    split at hv
    · rename_i hlt
      simp only [Option.some.injEq] at hv
      subst hv
      refine ⟨undef, ?_, .undef⟩
      rw [Array.getElem?_append_right (by simp; omega), Array.getElem?_replicate, if_pos (by simp at hlt ⊢; omega)]
    · cases hv

theorem body_sound {P : Program} {C : Ctx} (hC : Good P C) {call : Fun} (hcall : CallOk P C call) {lp : Lp} (hlp : LpOk lp) {f : FuncId} {fi : FI} (hf : C.fn.get f = some fi)
    {args : List Value} {H H' : AHeap} {v : Value} (h : body C call lp fi args H = some (v, H')) {B : Nat} {μ : Mu} {w : World} {args' : List Value} (hW : WRel μ B H w) (ha : VRelL μ args args') :
    Calls P f ⟨args'⟩ w fun e w' => ∃ μ' v', e = .returned v' ∧ VRel μ' v v' ∧ Went B μ H w μ' H' w' := by
  obtain ⟨h1, _, _⟩ := hC.base.fn f fi hf
  unfold body at h
  split at h
  · cases h
  · rename_i c hc
    simp only [Option.bind_eq_some_iff] at h
    obtain ⟨⟨ex, ρ, H1⟩, h2, h3⟩ := h
    have hok := hC.fns f fi hf
    unfold okFn at hok
    rw [hc] at hok
    refine calls_of_wp h1 hc (wp_mono (evCode_sound hC.base hC.mixed hcall hlp c _ H _ hok h2 B μ w _ hW (mkEnv_sound ha _)) fun e a' w' hg => ?_)
    obtain ⟨rfl, μ', g1, g2, g3⟩ := hg
    have fin : (resV C fi.fn ρ H1).map (fun v => (v, H1)) = some (v, H') → a'.defers = [] ∧ ∃ v', (results fi.fn a'.tmps).run P w' = .ok v' w' ∧ ∃ μ'' v'', Ending.returned v' = .returned v'' ∧ VRel μ'' v v'' ∧ Went B μ H w μ'' H' w' := fun h3 => by
      simp only [Option.map_eq_some_iff, Prod.mk.injEq] at h3
      obtain ⟨u, hu, rfl, rfl⟩ := h3
      obtain ⟨v', e1, e2⟩ := resV_sound hC.base g3.rel g1 hu
      exact ⟨g2, v', e1, μ', v', rfl, e2, g3⟩
    cases ex with
    | normal => exact fin h3
    | ret => exact fin h3
    | exit id => simp at h3

theorem loopN_ok (n : Nat) : LpOk fun g => loopN g n := fun _ _ _ _ h => ⟨n, h⟩

theorem run_sound {P : Program} {C : Ctx} (hC : Good P C) : ∀ n, CallOk P C (run C n) := by
  intro n
  induction n with
  | zero => intro f args H v H' h; simp [run] at h
  | succ n ih =>
    intro f args H v H' h
    unfold run at h
    cases hs : C.sum f with
    | some s =>
      rw [hs] at h
      obtain ⟨g1, g2⟩ := hC.sum f s hs
      exact ⟨fun hc => absurd hc (by rw [g1]; simp), fun _ B μ w args' hW ha => g2 args H v H' h B μ w args' hW ha⟩
    | none =>
      rw [hs] at h
      simp only at h
      cases hc : C.same.contains f with
      | true =>
        rw [hc, cond_true] at h
        refine ⟨fun _ => ?_, fun hh => by cases hh⟩
        split at h
        · simp only [Option.some.injEq, Prod.mk.injEq] at h
          rw [h.1, h.2]; exact ⟨rfl, rfl⟩
        · cases h
      | false =>
        rw [hc, cond_false] at h
        refine ⟨fun hh => absurd hh (by simp), fun _ B μ w args' hW ha => ?_⟩
        split at h
        · cases h
        · rename_i fi hf
          exact body_sound hC ih (loopN_ok n) hf h hW ha

/-- Comes to be, from some point on. -/
def Dir {α : Type} (x : Option α) (xs : Nat → Option α) : Prop := ∀ r, x = some r → ∃ N, ∀ n, N ≤ n → xs n = some r

namespace Dir
variable {α β : Type} {x : Option α} {xs : Nat → Option α}
theorem same (x : Option α) : Dir x fun _ => x := fun _ h => ⟨0, fun _ _ => h⟩
theorem bind {f : α → Option β} {fs : Nat → α → Option β} (h : Dir x xs) (k : ∀ a, Dir (f a) fun n => fs n a) : Dir (x.bind f) fun n => (xs n).bind (fs n) := by
  intro r hr
  obtain ⟨a, ha, hr⟩ := Option.bind_eq_some_iff.1 hr
  obtain ⟨N, hN⟩ := h a ha
  obtain ⟨M, hM⟩ := k a r hr
  exact ⟨max N M, fun n hn => by show (xs n).bind (fs n) = _; rw [hN n (by omega)]; exact hM n (by omega)⟩
theorem map (f : α → β) (h : Dir x xs) : Dir (x.map f) fun n => (xs n).map f := by
  intro r hr
  obtain ⟨a, ha, rfl⟩ := Option.map_eq_some_iff.1 hr
  obtain ⟨N, hN⟩ := h a ha
  exact ⟨N, fun n hn => by show (xs n).map f = _; rw [hN n hn]; rfl⟩
end Dir

section
variable {C : Ctx} {call : Fun} {calls : Nat → Fun} (hc : ∀ f args H, Dir (call f args H) fun n => calls n f args H)
include hc
theorem stepV_dir (ops : Array Oper) (o : Oper) (ρ : Env) (H : AHeap) : Dir (stepV C call ops o ρ H) fun n => stepV C (calls n) ops o ρ H := by
  unfold stepV
  refine (Dir.same _).bind fun b => ?_
  cases b with
  | false => exact Dir.same _
  | true =>
    refine (Dir.same _).bind fun r => ?_
    cases r with
    | val v H' => exact Dir.same _
    | call f args => exact hc f args H

theorem evOps_dir (ops : Array Oper) : ∀ (os : List Oper) (ρ : Env) (H : AHeap), Dir (evOps C call ops os ρ H) fun n => evOps C (calls n) ops os ρ H
  | [], _, _ => Dir.same _
  | o :: os, ρ, H => by
    simp only [evOps]
    exact (stepV_dir hc ops o ρ H).bind fun r => evOps_dir ops os _ _

theorem drRun_dir (ops : Array Oper) : ∀ (is : List (Nat × Cls)) (ρ : Env) (H : AHeap), Dir (drRun C call ops is ρ H) fun n => drRun C (calls n) ops is ρ H
  | [], _, _ => Dir.same _
  | (i, c) :: is, ρ, H => by
    simp only [drRun]
    exact (Dir.same _).bind fun o => (stepV_dir hc ops o ρ H).bind fun r => (drRun_dir ops is _ _).map _

theorem evDraw_dir (ops : Array Oper) (items : List (Nat × Cls)) (ρ : Env) (H : AHeap) : Dir (evDraw C call ops items ρ H) fun n => evDraw C (calls n) ops items ρ H := by
  unfold evDraw
  exact (drRun_dir hc ops items ρ H).bind fun d => Dir.same _

variable {lp : Lp} {lps : Nat → Lp} (hl : ∀ (g : Env → AHeap → Option (Ex × Env × AHeap)) (gs : Nat → Env → AHeap → Option (Ex × Env × AHeap)), (∀ ρ H, Dir (g ρ H) fun n => gs n ρ H) → ∀ ρ H, Dir (lp g ρ H) fun n => lps n (gs n) ρ H)
include hl
theorem evCode_dir (dr : List (Nat × List (Nat × Cls))) : ∀ (c : Code) (ρ : Env) (H : AHeap), Dir (evCode C dr call lp c ρ H) fun n => evCode C dr (calls n) (lps n) c ρ H := by
  intro c
  induction c with
  | region id ops dw =>
    intro ρ H
    cases dw with
    | false =>
      simp only [evCode]
      exact (evOps_dir hc ops _ _ _).map _
    | true =>
      simp only [evCode]
      exact (Dir.same _).bind fun items => (evDraw_dir hc ops items ρ H).map _
  | seq a b ia ib =>
    intro ρ H
    simp only [evCode]
    refine (ia ρ H).bind fun r => ?_
    obtain ⟨ex, ρ', H'⟩ := r
    cases ex with
    | normal => exact ib ρ' H'
    | exit id => exact Dir.same _
    | ret => exact Dir.same _
  | cond x a b ia ib =>
    intro ρ H
    simp only [evCode]
    refine (Dir.same _).bind fun v => ?_
    split
    · exact ia ρ H
    · exact ib ρ H
    · exact Dir.same _
  | block id b ib =>
    intro ρ H
    simp only [evCode]
    exact (ib ρ H).map _
  | loop b ib =>
    intro ρ H
    simp only [evCode]
    exact hl _ _ ib ρ H
  | _ => intro ρ H; simp only [evCode]; exact Dir.same _

theorem body_dir (fi : FI) (args : List Value) (H : AHeap) : Dir (body C call lp fi args H) fun n => body C (calls n) (lps n) fi args H := by
  unfold body
  split
  · exact Dir.same _
  · refine (evCode_dir hc hl fi.draws _ _ _).bind fun r => ?_
    obtain ⟨ex, ρ', H'⟩ := r
    cases ex <;> exact Dir.same _
end

theorem loopN_dir {g : Env → AHeap → Option (Ex × Env × AHeap)} {gs : Nat → Env → AHeap → Option (Ex × Env × AHeap)} (h : ∀ ρ H, Dir (g ρ H) fun n => gs n ρ H) (m : Nat → Nat) :
    ∀ (k : Nat) (M : Nat) (ρ : Env) (H : AHeap), (∀ n, M ≤ n → k ≤ m n) → Dir (loopN g k ρ H) fun n => loopN (gs n) (m n) ρ H := by
  have key : ∀ (k : Nat) (m : Nat → Nat) (M : Nat) (ρ : Env) (H : AHeap), (∀ n, M ≤ n → k ≤ m n) → Dir (loopN g k ρ H) fun n => loopN (gs n) (m n) ρ H := by
    intro k
    induction k with
    | zero => intro m M ρ H _ r hr; simp [loopN] at hr
    | succ k ih =>
      intro m M ρ H hm r hr
      simp only [loopN, Option.bind_eq_some_iff] at hr
      obtain ⟨⟨ex, ρ', H'⟩, e1, e2⟩ := hr
      obtain ⟨N, hN⟩ := h ρ H _ e1
      have un : ∀ n, max N M ≤ n → ∃ j, m n = j + 1 := fun n hn => ⟨m n - 1, by have := hm n (by omega); omega⟩
      cases ex with
      | normal =>
        obtain ⟨N2, hN2⟩ := ih (fun n => m n - 1) M ρ' H' (fun n hn => by have := hm n hn; omega) r e2
        refine ⟨max (max N M) N2, fun n hn => ?_⟩
        obtain ⟨j, hj⟩ := un n (by omega)
        have h2 := hN2 n (by omega)
        simp only [hj, Nat.add_sub_cancel] at h2
        simp only [hj, loopN, hN n (by omega), Option.bind_some]
        exact h2
      | exit id =>
        refine ⟨max N M, fun n hn => ?_⟩
        obtain ⟨j, hj⟩ := un n (by omega)
        simp only [hj, loopN, hN n (by omega), Option.bind_some]
        exact e2
      | ret =>
        refine ⟨max N M, fun n hn => ?_⟩
        obtain ⟨j, hj⟩ := un n (by omega)
        simp only [hj, loopN, hN n (by omega), Option.bind_some]
        exact e2
  exact fun k M ρ H hm => key k m M ρ H hm

def runOnce (C : Ctx) (n : Nat) : Fun := fun f args H =>
  match C.sum f with
  | some s => s args H
  | none =>
    cond (C.same.contains f) (match args with | [v] => some (v, H) | _ => none) <|
    match C.fn.get f with
    | none => none
    | some fi => body C (run C n) (fun g => loopN g n) fi args H

theorem run_succ (C : Ctx) (n : Nat) (f : FuncId) (args : List Value) (H : AHeap) : run C (n + 1) f args H = runOnce C n f args H := by
  unfold run runOnce
  rfl

theorem run_step (C : Ctx) : ∀ (n : Nat) (f : FuncId) (args : List Value) (H : AHeap) (r : Value × AHeap), run C n f args H = some r → run C (n + 1) f args H = some r
  | 0, f, args, H, r, h => by simp [run] at h
  | n + 1, f, args, H, r, h => by
    rw [run_succ] at h ⊢
    unfold runOnce at h ⊢
    cases hs : C.sum f with
    | some s => rw [hs] at h; exact h
    | none =>
      rw [hs] at h
      simp only at h ⊢
      cases hc : C.same.contains f with
      | true => rw [hc, cond_true] at h; rw [cond_true]; exact h
      | false =>
        rw [hc, cond_false] at h; rw [cond_false]
        split at h
        · cases h
        · rename_i fi hf
          obtain ⟨N, hN⟩ := body_dir (C := C) (call := run C n) (calls := fun _ => run C (n + 1)) (fun f args H r hr => ⟨0, fun _ _ => run_step C n f args H r hr⟩)
            (lp := fun g => loopN g n) (lps := fun _ g => loopN g (n + 1)) (fun g gs hg ρ H => loopN_dir hg (fun _ => n + 1) n 0 ρ H fun _ _ => by omega) fi args H r h
          exact hN N (Nat.le_refl _)

theorem run_le (C : Ctx) {n m : Nat} (h : n ≤ m) {f : FuncId} {args : List Value} {H : AHeap} {r : Value × AHeap} (hr : run C n f args H = some r) : run C m f args H = some r := by
  induction h with
  | refl => exact hr
  | step _ ih => exact run_step C _ f args H r ih

/-- The evaluator without a bound. -/
noncomputable def runw (C : Ctx) : Fun := fun f args H =>
  open Classical in if h : ∃ n r, run C n f args H = some r then some h.choose_spec.choose else none

theorem runw_iff {C : Ctx} {f : FuncId} {args : List Value} {H : AHeap} {r : Value × AHeap} : runw C f args H = some r ↔ ∃ n, run C n f args H = some r := by
  unfold runw
  constructor
  · intro h
    split at h
    · rename_i hx
      have := hx.choose_spec.choose_spec
      rw [Option.some.inj h] at this
      exact ⟨_, this⟩
    · cases h
  · rintro ⟨n, h⟩
    have hx : ∃ n r, run C n f args H = some r := ⟨n, r, h⟩
    rw [dif_pos hx]
    have := hx.choose_spec.choose_spec
    have h1 := run_le C (Nat.le_max_left n hx.choose) h
    have h2 := run_le C (Nat.le_max_right n hx.choose) this
    rw [h1] at h2
    exact h2.symm

noncomputable def loopw : Lp := fun g ρ H => open Classical in if h : ∃ n r, loopN g n ρ H = some r then some h.choose_spec.choose else none

theorem loopN_le {g : Env → AHeap → Option (Ex × Env × AHeap)} {n m : Nat} (h : n ≤ m) {ρ : Env} {H : AHeap} {r : Ex × Env × AHeap} (hr : loopN g n ρ H = some r) : loopN g m ρ H = some r := by
  obtain ⟨N, hN⟩ := loopN_dir (g := g) (gs := fun _ => g) (fun ρ H => Dir.same _) (fun _ => m) n 0 ρ H (fun _ _ => h) r hr
  exact hN N (Nat.le_refl _)

theorem loopw_iff {g : Env → AHeap → Option (Ex × Env × AHeap)} {ρ : Env} {H : AHeap} {r : Ex × Env × AHeap} : loopw g ρ H = some r ↔ ∃ n, loopN g n ρ H = some r := by
  unfold loopw
  constructor
  · intro h
    split at h
    · rename_i hx
      have := hx.choose_spec.choose_spec
      rw [Option.some.inj h] at this
      exact ⟨_, this⟩
    · cases h
  · rintro ⟨n, h⟩
    have hx : ∃ n r, loopN g n ρ H = some r := ⟨n, r, h⟩
    rw [dif_pos hx]
    have := hx.choose_spec.choose_spec
    have h1 := loopN_le (Nat.le_max_left n hx.choose) h
    have h2 := loopN_le (Nat.le_max_right n hx.choose) this
    rw [h1] at h2
    exact h2.symm

/-- One round. -/
theorem loopw_eq (g : Env → AHeap → Option (Ex × Env × AHeap)) (ρ : Env) (H : AHeap) : loopw g ρ H = (g ρ H).bind fun
    | (.normal, ρ', H') => loopw g ρ' H'
    | r => some r := by
  apply Option.ext
  intro r
  rw [loopw_iff]
  constructor
  · rintro ⟨n, h⟩
    cases n with
    | zero => simp [loopN] at h
    | succ n =>
      simp only [loopN, Option.bind_eq_some_iff] at h ⊢
      obtain ⟨⟨ex, ρ', H'⟩, e1, e2⟩ := h
      refine ⟨_, e1, ?_⟩
      cases ex with
      | normal => exact loopw_iff.2 ⟨n, e2⟩
      | exit id => exact e2
      | ret => exact e2
  · intro h
    obtain ⟨⟨ex, ρ', H'⟩, e1, e2⟩ := Option.bind_eq_some_iff.1 h
    cases ex with
    | normal =>
      obtain ⟨n, hn⟩ := loopw_iff.1 e2
      exact ⟨n + 1, by simp only [loopN, e1, Option.bind_some]; exact hn⟩
    | exit id => exact ⟨1, by simp only [loopN, e1, Option.bind_some]; exact e2⟩
    | ret => exact ⟨1, by simp only [loopN, e1, Option.bind_some]; exact e2⟩

/-- What a function's text gives is what its call gives. -/
theorem runw_body {C : Ctx} {f : FuncId} {fi : FI} {args : List Value} {H : AHeap} {r : Value × AHeap} (hs : C.sum f = none) (hc : C.same.contains f = false) (hf : C.fn.get f = some fi)
    (h : body C (runw C) loopw fi args H = some r) : runw C f args H = some r := by
  obtain ⟨N, hN⟩ := body_dir (C := C) (call := runw C) (calls := fun n => run C n) (fun f args H r hr => by
      obtain ⟨n, hn⟩ := runw_iff.1 hr
      exact ⟨n, fun m hm => run_le C hm hn⟩) (lp := loopw) (lps := fun n g => loopN g n) (fun g gs hg ρ H r hr => by
      obtain ⟨k, hk⟩ := loopw_iff.1 hr
      exact loopN_dir hg (fun n => n) k k ρ H (fun _ h => h) r hk) fi args H r h
  refine runw_iff.2 ⟨N + 1, ?_⟩
  rw [run_succ]
  unfold runOnce
  simp only [hs, hc, cond_false, hf]
  exact hN N (Nat.le_refl _)

theorem runw_same {C : Ctx} {f : FuncId} {v : Value} {H : AHeap} (hs : C.sum f = none) (hc : C.same.contains f = true) : runw C f [v] H = some (v, H) :=
  runw_iff.2 ⟨1, by rw [run_succ]; unfold runOnce; simp only [hs, hc, cond_true]⟩

theorem runw_sum {C : Ctx} {f : FuncId} {s : List Value → AHeap → Option (Value × AHeap)} {args : List Value} {H : AHeap} {r : Value × AHeap} (hs : C.sum f = some s) (h : s args H = some r) : runw C f args H = some r :=
  runw_iff.2 ⟨1, by rw [run_succ]; unfold runOnce; simp only [hs]; exact h⟩

theorem runw_run {C : Ctx} {f : FuncId} {args : List Value} {H : AHeap} {r : Value × AHeap} {n : Nat} (h : run C n f args H = some r) : runw C f args H = some r := runw_iff.2 ⟨n, h⟩

theorem runw_sound {P : Program} {C : Ctx} (hC : Good P C) : CallOk P C (runw C) := by
  intro f args H v H' h
  obtain ⟨n, hn⟩ := runw_iff.1 h
  exact run_sound hC n f args H v H' hn

end Go.Ev

namespace Go.Ev
open Go Go.RowKit

/-- Every entry of a tree. -/
def Tree.All {α : Type} (p : Nat → α → Prop) : Nat → Nat → Tree α → Prop
  | _, _, .nil => True
  | a, b, .node l v r => (∀ x, v = some x → p b x) ∧ All p (2 * a) (a + b) l ∧ All p (2 * a) (2 * a + b) r

theorem Tree.All.get {α : Type} {p : Nat → α → Prop} : ∀ {t : Tree α} {a b : Nat}, Tree.All p a b t → ∀ n x, t.get n = some x → p (a * n + b) x
  | .nil, _, _, _, n, x, h => by simp [Tree.get] at h
  | .node l v r, a, b, ⟨h1, h2, h3⟩, n, x, h => by
    by_cases h0 : n = 0
    · subst h0
      simp [Tree.get] at h
      simpa using h1 x h
    · simp only [Tree.get, beq_false h0, cond_false] at h
      by_cases ho : n % 2 = 1
      · have hb : (n % 2).beq 1 = true := by simp [ho]
        simp only [hb, cond_true] at h
        have := h2.get _ _ h
        have e : 2 * a * (n / 2) + (a + b) = a * n + b := by
          have : n = 2 * (n / 2) + 1 := by omega
          conv => rhs; rw [this]
          rw [Nat.mul_add, Nat.mul_one, ← Nat.mul_assoc, Nat.mul_comm a 2]; omega
        rwa [e] at this
      · have hb : (n % 2).beq 1 = false := beq_false ho
        simp only [hb, cond_false] at h
        have := h3.get _ _ h
        have e : 2 * a * (n / 2 - 1) + (2 * a + b) = a * n + b := by
          obtain ⟨k, hk⟩ : ∃ k, n = 2 * k + 2 := ⟨n / 2 - 1, by omega⟩
          subst hk
          have : (2 * k + 2) / 2 - 1 = k := by omega
          rw [this, Nat.mul_add, ← Nat.mul_assoc, Nat.mul_comm a 2]; omega
        rwa [e] at this

theorem Tree.All.root {α : Type} {p : Nat → α → Prop} {t : Tree α} (h : Tree.All p 1 0 t) (n : Nat) (x : α) (hx : t.get n = some x) : p n x := by
  have := h.get n x hx
  simpa using this

theorem Tree.all_nil {α : Type} {p : Nat → α → Prop} {a b : Nat} : Tree.All p a b .nil := trivial
theorem Tree.all_some {α : Type} {p : Nat → α → Prop} {a b : Nat} {l r : Tree α} {x : α} (h : p b x) (hl : Tree.All p (2 * a) (a + b) l) (hr : Tree.All p (2 * a) (2 * a + b) r) : Tree.All p a b (.node l (some x) r) :=
  ⟨fun y e => by cases e; exact h, hl, hr⟩
theorem Tree.all_none {α : Type} {p : Nat → α → Prop} {a b : Nat} {l r : Tree α} (hl : Tree.All p (2 * a) (a + b) l) (hr : Tree.All p (2 * a) (2 * a + b) r) : Tree.All p a b (.node l none r) :=
  ⟨fun y e => by (cases e), hl, hr⟩

def Tree.allB {α : Type} (p : Nat → α → Bool) : Nat → Nat → Tree α → Bool
  | _, _, .nil => true
  | a, b, .node l v r => (match v with | some x => p b x | none => true) && Tree.allB p (2 * a) (a + b) l && Tree.allB p (2 * a) (2 * a + b) r

theorem Tree.allB_all {α : Type} {p : Nat → α → Bool} {q : Nat → α → Prop} (h : ∀ n x, p n x = true → q n x) : ∀ {t : Tree α} {a b : Nat}, t.allB p a b = true → Tree.All q a b t
  | .nil, _, _, _ => trivial
  | .node l v r, a, b, hb => by
    simp only [Tree.allB, Bool.and_eq_true] at hb
    refine ⟨fun x e => ?_, allB_all h hb.1.2, allB_all h hb.2⟩
    subst e
    exact h _ _ hb.1.1

def fieldsAre (P : Program) : List Field → List (TypeId × Nat × Nat) → Bool
  | [], [] => true
  | f :: fs, (t, o, s) :: gs => f.type.beq t && f.offset.beq o && (match P.info? f.type with | some i => i.size.beq s | none => false) && fieldsAre P fs gs
  | _, _ => false

theorem fieldsAre_spec {P : Program} : ∀ {fs : List Field} {gs : List (TypeId × Nat × Nat)}, fieldsAre P fs gs = true → fs.map (fun f => (f.type, f.offset, P.cellsOf f.type)) = gs ∧ ∀ f ∈ fs, (P.info? f.type).isSome
  | [], [], _ => ⟨rfl, by simp⟩
  | [], _ :: _, h => by simp [fieldsAre] at h
  | _ :: _, [], h => by simp [fieldsAre] at h
  | f :: fs, (t, o, s) :: gs, h => by
    simp only [fieldsAre, Bool.and_eq_true] at h
    obtain ⟨⟨⟨h1, h2⟩, h3⟩, h4⟩ := h
    obtain ⟨g1, g2⟩ := fieldsAre_spec h4
    cases hi : P.info? f.type with
    | none => rw [hi] at h3; cases h3
    | some i =>
      rw [hi] at h3
      refine ⟨?_, fun x hx => ?_⟩
      · have hc : P.cellsOf f.type = s := by rw [← beq_true h3]; simp [Program.cellsOf, hi]
        rw [List.map_cons, g1, hc, beq_true h1, beq_true h2]
      · rcases List.mem_cons.1 hx with rfl | hx
        · rw [hi]; rfl
        · exact g2 x hx

def tdIs (P : Program) : TypeDesc → TD → Bool
  | .bool, .bool => true
  | .int k, .int k' => decide (k = k')
  | .string, .string => true
  | .pointer e, .ptr e' => e.beq e'
  | .slice e, .slice e' => e.beq e'
  | .array n e, .array n' e' => n.beq n' && e.beq e'
  | .map k e, .map k' e' => k.beq k' && e.beq e'
  | .struct fs, .struct gs => fieldsAre P fs.toList gs
  | .interface _, .iface => true
  | .func _ _ _, .func => true
  | .tuple _, .tuple => true
  | .unsafePointer, .raw => true
  | .chan _ _, .other => true
  | .float _, .other => true
  | .complex _, .other => true
  | _, _ => false

theorem tdIs_ok {P : Program} {d : TypeDesc} {td : TD} (h : tdIs P d td = true) : TDOk P d td := by
  cases d <;> cases td <;> simp only [tdIs, Bool.false_eq_true] at h <;> simp only [TDOk]
  case int.int => simpa using h
  case pointer.ptr => exact beq_true h
  case slice.slice => exact beq_true h
  case array.array => simp only [Bool.and_eq_true] at h; exact ⟨beq_true h.1, beq_true h.2⟩
  case map.map => simp only [Bool.and_eq_true] at h; exact ⟨beq_true h.1, beq_true h.2⟩
  case struct.struct => exact fieldsAre_spec h

def zeroIs : Option Value → Option Value → Bool
  | none, none => true
  | some a, some b => same a b
  | _, _ => false

theorem zeroIs_ok {a b : Option Value} (h : zeroIs a b = true) : a = b := by
  cases a <;> cases b <;> simp [zeroIs] at h ⊢
  exact same_eq _ _ h

def tyIs (P : Program) (t : TypeId) (ti : TI) : Bool :=
  (match P.info? t with
  | some i => i.size.beq ti.size && i.bytes.beq ti.bytes && zeroIs i.zero ti.zero
  | none => false) &&
  (match P.underlying t with
  | some d => tdIs P d ti.td
  | none => false)

theorem tyIs_ok {P : Program} {t : TypeId} {ti : TI} (h : tyIs P t ti = true) : TyOk P t ti := by
  simp only [tyIs, Bool.and_eq_true] at h
  obtain ⟨h1, h2⟩ := h
  constructor
  · cases hi : P.info? t with
    | none => rw [hi] at h1; cases h1
    | some i =>
      rw [hi] at h1
      simp only [Bool.and_eq_true] at h1
      exact ⟨i, rfl, beq_true h1.1.1, beq_true h1.1.2, zeroIs_ok h1.2⟩
  · cases hu : P.underlying t with
    | none => rw [hu] at h2; cases h2
    | some d => rw [hu] at h2; exact ⟨d, rfl, tdIs_ok h2⟩

def isPtr : TypeDesc → Bool
  | .pointer _ => true
  | _ => false

def methIs (P : Program) (t : TypeId) (name : String) (f : FuncId) : Bool :=
  match P.info? t, P.underlying t with
  | some i, some d =>
    match i.methods.find? (fun m => m.name == name) with
    | some m => m.path.toList.isEmpty && (match m.func with | some (g, pr) => g.beq f && (pr == isPtr d) | none => false)
    | none => false
  | _, _ => false

theorem methIs_ok {P : Program} {t : TypeId} {name : String} {f : FuncId} (h : methIs P t name f = true) : MethOk P t name f := by
  unfold methIs at h
  split at h
  · rename_i i d hi hd
    split at h
    · rename_i m hm
      simp only [Bool.and_eq_true] at h
      obtain ⟨hp, h⟩ := h
      have hp : m.path.toList = [] := by simpa using hp
      split at h
      · rename_i g pr hf
        simp only [Bool.and_eq_true] at h
        obtain ⟨h1, h2⟩ := h
        have h1 := beq_true h1
        subst h1
        have h2 : pr = isPtr d := by simpa using h2
        have hfu : P.types.size + Made.depth = (P.types.size + 99) + 1 := rfl
        constructor
        · intro v w
          rw [hfu]
          unfold method
          simp only [typeInfo, Sem.run_bind, run_program, Result.andThen_ok, hi, Sem.run_pure, hm, hp, follow, hf]
          cases d <;> simp only [isPtr] at h2 <;> subst h2 <;> simp [receiverAt, run_und hd, Place.get]
        · intro v w
          rw [hfu]
          unfold nilAhead
          simp only [typeInfo, Sem.run_bind, run_program, Result.andThen_ok, hi, Sem.run_pure, hm, hp, followBlind, hf]
          cases d <;> simp only [isPtr] at h2 <;> subst h2 <;> simp [run_und hd]
      · cases h
    · cases h
  · cases h

end Go.Ev

namespace Go.Ev
open Go Go.RowKit

def leavesF (g : TypeId → Option (List Leaf)) (P : Program) : List Field → Nat → Option (List Leaf)
  | [], _ => some []
  | f :: fs, off =>
    cond (!(f.name == "_") && f.offset.beq off && (P.info? f.type).isSome)
      ((g f.type).bind fun ls => cond ((P.cellsOf f.type).beq ls.length && !(ls.length.beq 0)) ((leavesF g P fs (off + ls.length)).map fun r => ls ++ r) none) none

def leavesP (P : Program) : Nat → TypeId → Option (List Leaf)
  | 0, _ => none
  | n + 1, t =>
    match P.underlying t with
    | some .bool => some [.bool]
    | some (.int k) => some [.int k]
    | some .string => some [.str]
    | some (.struct fs) => cond (P.stoodInHeld t) none (leavesF (leavesP P n) P fs.toList 0)
    | _ => none

def aggT (P : Program) (t : TypeId) : Bool :=
  match P.underlying t with
  | some (.struct _) => true
  | _ => false

theorem cellsEq_append : ∀ {l1 l2 : List Leaf} {xs ys : List Value} {b : Bool}, cellsEq (l1 ++ l2) xs ys = some b →
    ∃ b1 b2, cellsEq l1 (xs.take l1.length) (ys.take l1.length) = some b1 ∧ cellsEq l2 (xs.drop l1.length) (ys.drop l1.length) = some b2 ∧ b = (b1 && b2) ∧ l1.length ≤ xs.length ∧ l1.length ≤ ys.length
  | [], l2, xs, ys, b, h => ⟨true, b, rfl, by simpa using h, by simp, by simp, by simp⟩
  | l :: l1, l2, [], ys, b, h => by simp [cellsEq] at h
  | l :: l1, l2, x :: xs, [], b, h => by simp [cellsEq] at h
  | l :: l1, l2, x :: xs, y :: ys, b, h => by
    simp only [List.cons_append, cellsEq, Option.bind_eq_some_iff, Option.map_eq_some_iff] at h
    obtain ⟨a, ha, c, hc, rfl⟩ := h
    obtain ⟨b1, b2, h1, h2, h3, h4, h5⟩ := cellsEq_append hc
    refine ⟨a && b1, b2, ?_, by simpa using h2, by rw [h3, Bool.and_assoc], by simpa using h4, by simpa using h5⟩
    simp only [List.length_cons, List.take_succ_cons, cellsEq, ha, Option.bind_some, h1, Option.map_some]

theorem cellsAre_append : ∀ {l1 l2 : List Leaf} {xs : List Value}, cellsAre (l1 ++ l2) xs = true →
    cellsAre l1 (xs.take l1.length) = true ∧ cellsAre l2 (xs.drop l1.length) = true ∧ l1.length ≤ xs.length
  | [], l2, xs, h => ⟨rfl, by simpa using h, by simp⟩
  | l :: l1, l2, [], h => by simp [cellsAre] at h
  | l :: l1, l2, x :: xs, h => by
    simp only [List.cons_append, cellsAre, Bool.and_eq_true] at h
    obtain ⟨h1, h2, h3⟩ := cellsAre_append h.2
    exact ⟨by simp only [List.length_cons, List.take_succ_cons, cellsAre, h.1, h1, Bool.and_self], by simpa using h2, by simpa using h3⟩

section
variable {P : Program}

theorem leaves_agg {n : Nat} {t : TypeId} {ls : List Leaf} (h : leavesP P n t = some ls) (ha : aggT P t = false) : ls.length = 1 := by
  cases n with
  | zero => simp [leavesP] at h
  | succ n =>
    unfold leavesP at h
    unfold aggT at ha
    split at h
    · cases h; rfl
    · cases h; rfl
    · cases h; rfl
    · rename_i fs hu; rw [hu] at ha; cases ha
    · cases h

theorem leaves_under {n : Nat} {t : TypeId} {ls : List Leaf} (h : leavesP P n t = some ls) : ∃ d, P.underlying t = some d ∧ ∀ w, (isAgg t).run P w = .ok (aggT P t) w := by
  cases n with
  | zero => simp [leavesP] at h
  | succ n =>
    unfold leavesP at h
    split at h
    all_goals first
      | (rename_i hu; exact ⟨_, hu, fun w => by simp [isAgg, run_und hu, aggT, hu]⟩)
      | (rename_i fs hu; exact ⟨_, hu, fun w => by simp [isAgg, run_und hu, aggT, hu]⟩)
      | cases h

/-- A part of a struct. -/
theorem run_part_leaf {n : Nat} {t : TypeId} {ls : List Leaf} (h : leavesP P n t = some ls) (hi : (P.info? t).isSome = true) (hc : P.cellsOf t = ls.length) {X : List Value} {off : Nat} (hl : off + ls.length ≤ X.length) (w : World) :
    ∃ x, mkVal (aggT P t) ((X.drop off).take ls.length) = some x ∧ (part t ⟨X⟩ off).run P w = .ok x w := by
  obtain ⟨d, hu, hagg⟩ := leaves_under h
  have hsz : (sizeOf t).run P w = .ok (P.cellsOf t) w := by
    cases hx : P.info? t with
    | none => rw [hx] at hi; cases hi
    | some i => simp [sizeOf, typeInfo, Program.cellsOf, hx]
  cases ha : aggT P t with
  | true =>
    refine ⟨_, rfl, ?_⟩
    simp only [part, Sem.run_bind, hagg, ha, Result.andThen_ok, if_true, hsz, Sem.run_pure, hc]
    congr 2
    simp [List.extract_eq_take_drop]
  | false =>
    have h1 := leaves_agg h ha
    have hlt : off < X.length := by omega
    refine ⟨X[off], ?_, ?_⟩
    · rw [h1, List.drop_eq_getElem_cons hlt]; rfl
    · simp [part, hagg, ha, hlt]

theorem equalIn_leaf : ∀ (n : Nat) (t : TypeId) (ls : List Leaf), leavesP P n t = some ls → ∀ (d : Nat), n ≤ d → ∀ (xs ys : List Value) (b : Bool) (x y : Value) (w : World), cellsEq ls xs ys = some b →
    mkVal (aggT P t) xs = some x → mkVal (aggT P t) ys = some y → (Op.equalIn d t x y).run P w = .ok b w := by
  intro n
  induction n with
  | zero => intro t ls h; simp [leavesP] at h
  | succ n ih =>
    intro t ls h d hd xs ys b x y w hb hx hy
    obtain ⟨d, rfl⟩ : ∃ e, d = e + 1 := ⟨d - 1, by omega⟩
    unfold leavesP at h
    have one : ∀ {l : Leaf}, ls = [l] → aggT P t = false → ∃ u v, x = u ∧ y = v ∧ leafEq l u v = some b := fun {l} hl ha => by
      subst hl
      rw [ha] at hx hy
      cases xs with
      | nil => simp [mkVal] at hx
      | cons u us =>
        cases us with
        | cons _ _ => simp [mkVal] at hx
        | nil =>
          cases ys with
          | nil => simp [mkVal] at hy
          | cons v vs =>
            cases vs with
            | cons _ _ => simp [mkVal] at hy
            | nil =>
              simp only [mkVal, Option.some.injEq] at hx hy
              subst hx; subst hy
              simp only [cellsEq, Option.bind_eq_some_iff, Option.map_some, Option.some.injEq, Bool.and_true, exists_eq_right] at hb
              exact ⟨_, _, rfl, rfl, hb⟩
    split at h
    · rename_i hu
      obtain ⟨u, v, rfl, rfl, hl⟩ := one (Option.some.inj h).symm (by simp [aggT, hu])
      cases x <;> cases y <;> simp only [leafEq, Option.some.injEq, reduceCtorEq] at hl
      subst hl
      simp [Op.equalIn, run_und hu]
    · rename_i k hu
      obtain ⟨u, v, rfl, rfl, hl⟩ := one (Option.some.inj h).symm (by simp [aggT, hu])
      cases x <;> cases y <;> simp only [leafEq, reduceCtorEq] at hl
      split at hl
      · rename_i hk
        obtain ⟨rfl, rfl⟩ := hk
        simp only [Option.some.injEq] at hl
        subst hl
        simp [Op.equalIn, run_und hu]
      · cases hl
    · rename_i hu
      obtain ⟨u, v, rfl, rfl, hl⟩ := one (Option.some.inj h).symm (by simp [aggT, hu])
      cases x <;> cases y <;> simp only [leafEq, Option.some.injEq, reduceCtorEq] at hl
      subst hl
      simp [Op.equalIn, run_und hu]
    · rename_i fs hu
      have ha : aggT P t = true := by simp [aggT, hu]
      rw [ha] at hx hy
      simp only [mkVal, Option.some.injEq] at hx hy
      subst hx; subst hy
      cases hs : P.stoodInHeld t with
      | true => rw [hs] at h; cases h
      | false =>
        rw [hs, cond_false] at h
        have hf : P.fieldsOf t = fs := by simp [Program.fieldsOf, hu]
        rw [run_equalIn_struct w d t _ _ (by rw [hf]; exact hu) hs, hf]
        have key : ∀ (gs : List Field) (off : Nat) (ms : List Leaf) (b : Bool) (w : World), leavesF (leavesP P n) P gs off = some ms → cellsEq ms (xs.drop off) (ys.drop off) = some b →
            (Op.eqFields d ⟨xs⟩ ⟨ys⟩ gs).run P w = .ok b w := by
          intro gs
          induction gs with
          | nil =>
            intro off ms b w hm hb
            simp only [leavesF, Option.some.injEq] at hm
            subst hm
            cases hxd : xs.drop off <;> cases hyd : ys.drop off <;> rw [hxd, hyd] at hb <;> simp [cellsEq] at hb
            subst hb
            simp [Op.eqFields]
          | cons f gs ihg =>
            intro off ms b w hm hb
            simp only [leavesF] at hm
            cases hcnd : (!(f.name == "_") && f.offset.beq off && (P.info? f.type).isSome) with
            | false => rw [hcnd] at hm; cases hm
            | true =>
              rw [hcnd, cond_true] at hm
              simp only [Bool.and_eq_true, Bool.not_eq_true', beq_eq_false_iff_ne] at hcnd
              obtain ⟨⟨c1, c2⟩, c3⟩ := hcnd
              have c2 := beq_true c2
              obtain ⟨l1, h1, hm⟩ := Option.bind_eq_some_iff.1 hm
              cases hsz : ((P.cellsOf f.type).beq l1.length && !(l1.length.beq 0)) with
              | false => rw [hsz] at hm; cases hm
              | true =>
                rw [hsz, cond_true] at hm
                simp only [Bool.and_eq_true] at hsz
                have hnz : l1.length ≠ 0 := by intro e; rw [e] at hsz; simp at hsz
                have hsz := beq_true hsz.1
                obtain ⟨l2, h2, rfl⟩ := Option.map_eq_some_iff.1 hm
                obtain ⟨b1, b2, e1, e2, rfl, e4, e5⟩ := cellsEq_append hb
                simp only [List.length_drop] at e4 e5
                rw [List.drop_drop] at e2
                rw [List.drop_drop] at e2
                simp only [Op.eqFields, ne_eq, c1, not_false_eq_true, if_true]
                rw [c2]
                obtain ⟨x1, m1, r1⟩ := run_part_leaf h1 c3 hsz (X := xs) (off := off) (by omega) w
                obtain ⟨y1, m2, r2⟩ := run_part_leaf h1 c3 hsz (X := ys) (off := off) (by omega) w
                simp only [Sem.run_bind, r1, r2, Result.andThen_ok, ih f.type l1 h1 d (by omega) _ _ b1 x1 y1 w e1 m1 m2]
                cases b1 with
                | false => simp
                | true =>
                  simp only [Bool.not_true, Bool.false_eq_true, if_false, Bool.true_and]
                  exact ihg _ _ _ w h2 e2
        exact key fs.toList 0 ls b w h (by simpa using hb)
    · cases h

theorem checkKey_leaf (e : Bool) : ∀ (n : Nat) (t : TypeId) (ls : List Leaf), leavesP P n t = some ls → ∀ (d : Nat), n ≤ d → ∀ (xs : List Value) (x : Value) (w : World), cellsAre ls xs = true →
    mkVal (aggT P t) xs = some x → (Instr.checkKey e d t x).run P w = .ok () w := by
  intro n
  induction n with
  | zero => intro t ls h; simp [leavesP] at h
  | succ n ih =>
    intro t ls h d hd xs x w hb hx
    obtain ⟨d, rfl⟩ : ∃ e, d = e + 1 := ⟨d - 1, by omega⟩
    unfold leavesP at h
    split at h
    · rename_i hu
      simp [Instr.checkKey, run_und hu]
    · rename_i k hu
      simp [Instr.checkKey, run_und hu]
    · rename_i hu
      simp [Instr.checkKey, run_und hu]
    · rename_i fs hu
      have ha : aggT P t = true := by simp [aggT, hu]
      rw [ha] at hx
      simp only [mkVal, Option.some.injEq] at hx
      subst hx
      cases hs : P.stoodInHeld t with
      | true => rw [hs] at h; cases h
      | false =>
        rw [hs, cond_false] at h
        simp only [Instr.checkKey, Sem.run_bind, run_und hu, Result.andThen_ok]
        rw [← Array.forIn_toList]
        have key : ∀ (gs : List Field) (off : Nat) (ms : List Leaf) (w : World), leavesF (leavesP P n) P gs off = some ms → cellsAre ms (xs.drop off) = true →
            ((forIn gs PUnit.unit fun f _ => (do
              if f.name ≠ "_" then Instr.checkKey e d f.type (← part f.type ⟨xs⟩ f.offset)
              pure (ForInStep.yield PUnit.unit) : Sem (ForInStep PUnit)) : Sem PUnit)).run P w = .ok PUnit.unit w := by
          intro gs
          induction gs with
          | nil => intro off ms w hm hb; simp
          | cons f gs ihg =>
            intro off ms w hm hb
            simp only [leavesF] at hm
            cases hcnd : (!(f.name == "_") && f.offset.beq off && (P.info? f.type).isSome) with
            | false => rw [hcnd] at hm; cases hm
            | true =>
              rw [hcnd, cond_true] at hm
              simp only [Bool.and_eq_true, Bool.not_eq_true', beq_eq_false_iff_ne] at hcnd
              obtain ⟨⟨c1, c2⟩, c3⟩ := hcnd
              have c2 := beq_true c2
              obtain ⟨l1, h1, hm⟩ := Option.bind_eq_some_iff.1 hm
              cases hsz : ((P.cellsOf f.type).beq l1.length && !(l1.length.beq 0)) with
              | false => rw [hsz] at hm; cases hm
              | true =>
                rw [hsz, cond_true] at hm
                simp only [Bool.and_eq_true] at hsz
                have hnz : l1.length ≠ 0 := by intro e; rw [e] at hsz; simp at hsz
                have hsz := beq_true hsz.1
                obtain ⟨l2, h2, rfl⟩ := Option.map_eq_some_iff.1 hm
                obtain ⟨e1, e2, e4⟩ := cellsAre_append hb
                simp only [List.length_drop] at e4
                rw [List.drop_drop] at e2
                obtain ⟨x1, m1, r1⟩ := run_part_leaf h1 c3 hsz (X := xs) (off := off) (by omega) w
                rw [← c2] at r1
                simp only [List.forIn_cons, Sem.run_bind, ne_eq, c1, not_false_eq_true, if_true, r1, Result.andThen_ok, ih f.type l1 h1 d (by omega) _ x1 w e1 m1, Sem.run_pure]
                have := ihg _ _ w h2 e2
                simpa using this
        have := key fs.toList 0 ls w h (by simpa using hb)
        have fin : ∀ {r : Result PUnit} {w' : World}, r = .ok PUnit.unit w' → (r.andThen fun _ w' => Result.ok () w') = .ok () w' := fun h => by rw [h]; rfl
        simp at this ⊢
        exact fin this
    · cases h

theorem eqOk_of {t : TypeId} {ls : List Leaf} (n : Nat) (hn : n ≤ 10000) (h : leavesP P n t = some ls) (ha : aggT P t = true) (hg : P.eqGuardType P.depth t = false) : EqOk P t ls := by
  refine ⟨hg, fun xs ys b w hb => ?_, fun e xs w hx => ?_⟩
  · exact equalIn_leaf n t ls h 10000 hn xs.toList ys.toList b _ _ w hb (by rw [ha]; rfl) (by rw [ha]; rfl)
  · exact checkKey_leaf e n t ls h 10000 hn xs.toList _ w hx (by rw [ha]; rfl)

end
end Go.Ev

namespace Go.Ev
open Go Go.RowKit

def leafSame : Leaf → Leaf → Bool
  | .bool, .bool => true
  | .int k, .int j => decide (k = j)
  | .str, .str => true
  | _, _ => false
def leavesSame : List Leaf → List Leaf → Bool
  | [], [] => true
  | a :: as, b :: bs => leafSame a b && leavesSame as bs
  | _, _ => false
theorem leafSame_eq {a b : Leaf} (h : leafSame a b = true) : a = b := by
  cases a <;> cases b <;> simp [leafSame] at h ⊢
  exact h
theorem leavesSame_eq : ∀ {a b : List Leaf}, leavesSame a b = true → a = b
  | [], [], _ => rfl
  | [], _ :: _, h => by simp [leavesSame] at h
  | _ :: _, [], h => by simp [leavesSame] at h
  | a :: as, b :: bs, h => by
    simp only [leavesSame, Bool.and_eq_true] at h
    rw [leafSame_eq h.1, leavesSame_eq h.2]

def eqIs (P : Program) (e : TypeId × List Leaf) : Bool :=
  (match leavesP P 20 e.1 with | some ls => leavesSame ls e.2 | none => false) && aggT P e.1 && !(P.eqGuardType P.depth e.1)

def fnIs (C : Ctx) (fi : FI) : Bool := !(fi.fn.name == "runtime.NumGoroutine") && fi.fn.body.isSome && okFn C fi

theorem leavesIn_mem {t : TypeId} {ls : List Leaf} : ∀ {l : List (TypeId × List Leaf)}, leavesIn t l = some ls → (t, ls) ∈ l
  | [], h => by simp [leavesIn] at h
  | (u, k) :: r, h => by
    unfold leavesIn at h
    cases hb : u.beq t with
    | true =>
      rw [hb, cond_true] at h
      rw [← beq_true hb, Option.some.inj h]; simp
    | false => rw [hb, cond_false] at h; exact List.mem_cons_of_mem _ (leavesIn_mem h)

theorem good_of {P : Program} {C : Ctx} (mixed : P.follows .mixedOrders = true) (ty : C.ty.allB (tyIs P) 1 0 = true)
    (fn : Tree.All (fun f fi => P.funcs[f]? = some fi.fn) 1 0 C.fn) (fns : Tree.All (fun _ fi => fnIs C fi = true) 1 0 C.fn)
    (meth : C.meth.all (fun m => methIs P m.1 m.2.1 m.2.2) = true) (eqs : C.eqs.all (eqIs P) = true)
    (same : ∀ f, C.same.contains f = true → ∀ x w, (callFunc f #[x]).run P w = .ok (.value x) w)
    (sum : ∀ f s, C.sum f = some s → C.same.contains f = false ∧ ∀ args H v H', s args H = some (v, H') → ∀ B μ w args', WRel μ B H w → VRelL μ args args' →
      Calls P f ⟨args'⟩ w fun e w' => ∃ μ' v', e = .returned v' ∧ VRel μ' v v' ∧ Went B μ H w μ' H' w') : Good P C := by
  have hf : ∀ f fi, C.fn.get f = some fi → fnIs C fi = true := fns.root
  refine ⟨⟨(Tree.allB_all (fun _ _ => tyIs_ok) ty).root, fun f fi h => ?_, fun t name f h => ?_, fun t ls h => ?_, same⟩, mixed, fun f fi h => ?_, sum⟩
  · have := hf f fi h
    unfold fnIs at this
    simp only [Bool.and_eq_true, Bool.not_eq_true'] at this
    exact ⟨fn.root f fi h, this.1.1, this.1.2⟩
  · simp only [methA, Option.map_eq_some_iff] at h
    obtain ⟨⟨t', n', f'⟩, h1, rfl⟩ := h
    have hm := List.mem_of_find?_eq_some h1
    have hp := List.find?_some h1
    simp only [Bool.and_eq_true, beq_iff_eq] at hp
    rw [List.all_eq_true] at meth
    have := meth _ hm
    simp only at this
    rw [← beq_true hp.1, ← hp.2]
    exact methIs_ok this
  · have hm := leavesIn_mem h
    rw [List.all_eq_true] at eqs
    have := eqs _ hm
    unfold eqIs at this
    simp only [Bool.and_eq_true, Bool.not_eq_true'] at this
    obtain ⟨⟨h1, h2⟩, h3⟩ := this
    cases hl : leavesP P 20 t with
    | none => rw [hl] at h1; cases h1
    | some ls' =>
      rw [hl] at h1
      have := leavesSame_eq h1
      subst this
      exact eqOk_of 20 (by omega) hl h2 h3
  · have := hf f fi h
    unfold fnIs at this
    simp only [Bool.and_eq_true] at this
    exact this.2

end Go.Ev
