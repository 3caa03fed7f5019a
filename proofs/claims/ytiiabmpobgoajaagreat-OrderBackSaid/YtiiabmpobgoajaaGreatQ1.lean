/- Part of the proof: Q1. -/
import Derived.Test.YtiiabmpobgoajaaGreatTabF
import Derived.Test.YtiiabmpobgoajaaGreatPartEvS1
set_option linter.all false
namespace Go.Proofs.YtiiabmpobgoajaaGreat
open Go Go.Ev Tab
set_option maxRecDepth 10000
attribute [local irreducible] runw loopw

theorem runw_flat' {C C0 : Ctx} {f : FuncId} (hs : C.sum f = some (flatw C0 f)) {args : List Value} {H : AHeap} {Q : Value × AHeap → Prop} (hp : args.all plain = true)
    (h : Does (runw C0 f args hp0) fun r => flatV r.1 = true ∧ Q (r.1, H)) : Does (runw C f args H) Q := by
  obtain ⟨⟨v, H'⟩, e, q1, q2⟩ := h
  refine ⟨(v, H), runw_sum (s := flatw C0 f) hs ?_, q2⟩
  unfold flatw
  rw [hp, cond_true, e]
  simp only [Option.bind_some, q1, cond_true]

def or64 (w : Int) (b : UInt8) : Int := IntKind.u64.wrap (BitVec.ofInt IntKind.u64.bits (IntKind.u64.wrap (w * 2 ^ 8)) ||| BitVec.ofInt IntKind.u64.bits (IntKind.u64.wrap b.toNat)).toNat
def get64 (l : List UInt8) : Int := l.foldl or64 0

theorem get_8 (c0 c1 c2 c3 c4 c5 c6 c7 : UInt8) : Does (runw ctx 106 [.string ⟨#[c0, c1, c2, c3, c4, c5, c6, c7]⟩] hp0) fun r => r.1 = .int .u64 (get64 [c0, c1, c2, c3, c4, c5, c6, c7]) :=
  does_kernel 100 (·.1) (by kernel_rfl)
theorem get_9 (c0 c1 c2 c3 c4 c5 c6 c7 c8 : UInt8) : Does (runw ctx 106 [.string ⟨#[c0, c1, c2, c3, c4, c5, c6, c7, c8]⟩] hp0) fun r => r.1 = .int .u64 (get64 [c0, c1, c2, c3, c4, c5, c6, c7]) :=
  does_kernel 100 (·.1) (by kernel_rfl)
theorem get_17 (c0 c1 c2 c3 c4 c5 c6 c7 c8 c9 c10 c11 c12 c13 c14 c15 c16 : UInt8) : Does (runw ctx 106 [.string ⟨#[c0, c1, c2, c3, c4, c5, c6, c7, c8, c9, c10, c11, c12, c13, c14, c15, c16]⟩] hp0) fun r => r.1 = .int .u64 (get64 [c0, c1, c2, c3, c4, c5, c6, c7]) :=
  does_kernel 100 (·.1) (by kernel_rfl)

def w8 (x : Int) : Value := .int .u8 (IntKind.u8.wrap x)
def b8 (x : Int) : UInt8 := UInt8.ofNat (IntKind.u8.wrap x).toNat
theorem bytesOf_w8 : ∀ l : List Int, bytesOf (l.map w8) = some (l.map b8)
  | [] => rfl
  | x :: l => by
    have h : 0 ≤ IntKind.u8.wrap x ∧ IntKind.u8.wrap x < 256 := by
      simp [IntKind.wrap, IntKind.signed, IntKind.bits]; omega
    simp only [List.map_cons, w8, bytesOf]
    rw [if_pos h]
    have := bytesOf_w8 l
    rw [this]
    rfl

theorem does_assoc {C : Ctx} {call : Fun} {lp : Lp} {dr : List (Nat × List (Nat × Cls))} {a b c : Code} {ρ : Env} {H : AHeap} {Q : Ex × Env × AHeap → Prop} (h : Does (evCode C dr call lp (.seq (.seq a b) c) ρ H) Q) : Does (evCode C dr call lp (.seq a (.seq b c)) ρ H) Q := by
  refine Does.congr ?_ h
  simp only [evCode]
  cases evCode C dr call lp a ρ H with
  | none => rfl
  | some r =>
    obtain ⟨x, ρ', H'⟩ := r
    cases x <;> rfl

theorem stepV_val {C : Ctx} {call : Fun} {ops : Array Oper} {o : Oper} {ρ : Env} {H H1 : AHeap} {v : Value} (hg : o.guard = none) (h : opEval C ρ H o = some (.val v H1)) : stepV C call ops o ρ H = some (v, H1) := by
  unfold stepV wantedA
  rw [hg]
  simp only [Option.bind_some, h]

def q256 (w : Int) : Int := IntKind.u64.wrap (w.tdiv 256)
def refInts (w : Int) : List Int := [(q256 (q256 (q256 (q256 (q256 (q256 (q256 w))))))).tmod 256, (q256 (q256 (q256 (q256 (q256 (q256 w)))))).tmod 256, (q256 (q256 (q256 (q256 (q256 w))))).tmod 256, (q256 (q256 (q256 (q256 w)))).tmod 256, (q256 (q256 (q256 w))).tmod 256, (q256 (q256 w)).tmod 256, (q256 w).tmod 256, w.tmod 256]

def projW (r : Ex × Env × AHeap) : Bool × Option Value × Nat × Option AObj := (match r.1 with | .normal => true | _ => false, Ev.look r.2.1 (.tmp 3), r.2.1.length, r.2.2.get 0)

theorem word_hp0 (w : Int) : Does (runw ctx 107 [.int .u64 w] hp0) fun r => r.1 = .string ⟨((refInts w).map b8).toArray⟩ := by
  refine does_run (fi := g107) rfl rfl rfl rfl ?_
  refine does_assoc (does_assoc (does_seq (does_seg 100 ((does_proj projW (y := (true, some (.slice (some ⟨0, 0, none⟩) 8 8), 20, some (.cells ((refInts w).map w8) 5 false))) (by kernel_rfl)).mono ?_))))
  rintro ⟨x, ρ, H⟩ hp
  simp only [projW, Prod.mk.injEq] at hp
  obtain ⟨h1, h2, h3, h4⟩ := hp
  cases x <;> simp at h1
  match ρ, h3 with
  | [a0, a1, a2, a3, a4, a5, a6, a7, a8, a9, a10, a11, a12, a13, a14, a15, a16, a17, a18, a19], _ =>
  have h2 : a3 = some (.slice (some ⟨0, 0, none⟩) 8 8) := by simpa [Ev.look] using h2
  subst h2
  refine does_seq (does_region ?_)
  refine does_opn rfl (by simp only [Ev.put, List.set_cons_succ, List.set_cons_zero]; rfl) ?_
  have hld : ldCells H 0 0 8 = some ((refInts w).map w8) := by
    unfold ldCells
    rw [h4]; rfl
  refine does_opn (v := .string ⟨((refInts w).map b8).toArray⟩) (H1 := H) (stepV_val rfl ?_) (by simp only [Ev.put, List.set_cons_succ, List.set_cons_zero]; rfl) ?_
  · have t1 : tdA ctx 205 = some (.slice 5) := by kernel_rfl
    have t2 : tdA ctx 9 = some .string := by kernel_rfl
    have t3 : tdA ctx 5 = some (.int .u8) := by kernel_rfl
    show retVH (convA ctx H 205 9 (.slice (some ⟨0, 0, none⟩) 8 8)) = _
    simp only [convA, t1, t2, t3, hld, Option.bind_some, bytesOf_w8, Option.map_some]
    rfl
  repeat (first | refine does_opn rfl (by simp only [Ev.put, List.set_cons_succ, List.set_cons_zero]; rfl) ?_ | refine does_nil ?_ | refine does_seq ?_ | refine does_region ?_)
  exact does_ret ⟨_, rfl, rfl⟩
end Go.Proofs.YtiiabmpobgoajaaGreat
