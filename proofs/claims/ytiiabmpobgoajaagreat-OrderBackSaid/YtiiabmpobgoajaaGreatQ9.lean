/- Part of the proof: Q9. -/
import Derived.Test.YtiiabmpobgoajaaGreatQ7
set_option linter.all false
namespace Go.Proofs.YtiiabmpobgoajaaGreat
open Go Go.Ev Tab
set_option maxRecDepth 10000
set_option maxHeartbeats 4000000
attribute [local irreducible] runw loopw


theorem does_opk {C : Ctx} {call : Fun} {ops : Array Oper} {o : Oper} {os : List Oper} {ρ ρ1 : Env} {H : AHeap} {Q : Env × AHeap → Prop} {v : Value} (e : stepV C call ops o ρ H = some (v, H)) (hp : put ρ o.dst v = ρ1)
    (h : Does (evOps C call ops os ρ1 H) Q) : Does (evOps C call ops (o :: os) ρ H) Q := does_opn e hp h

theorem does_nilS {C : Ctx} {dr : List (Nat × List (Nat × Cls))} {call : Fun} {lp : Lp} {b : Code} {ops : Array Oper} {ρ : Env} {H : AHeap} {Q : Ex × Env × AHeap → Prop} (h : Does (evCode C dr call lp b ρ H) Q) :
    Does (evOps C call ops [] ρ H) (Norm (Then C dr call lp b Q)) := does_nil h
theorem does_skipS {C : Ctx} {dr : List (Nat × List (Nat × Cls))} {call : Fun} {lp : Lp} {b : Code} {ρ : Env} {H : AHeap} {Q : Ex × Env × AHeap → Prop} (h : Does (evCode C dr call lp b ρ H) Q) :
    Does (evCode C dr call lp .skip ρ H) (Then C dr call lp b Q) := does_skip h

theorem bytes_ne (x : ByteArray) : (!(x.data.toList == x.data.toList)) = false := by simp

def projE (r : Ex × Env × AHeap) : Bool × Option Value := (match r.1 with | .ret => true | _ => false, Ev.look r.2.1 (.tmp 6))

theorem rest4 {c : Code} {ρ : Env} {H : AHeap} (h : (evCode ctx2 g4.draws (run ctx2 1000) (fun g => loopN g 1000) c ρ H).map projE = some (true, some (.bool true))) :
    Does (evCode ctx2 g4.draws (runw ctx2) loopw c ρ H) (Ev.Fin ctx2 g4.fn fun r => r.1 = .bool true) := by
  refine does_seg 1000 ((does_proj projE h).mono ?_)
  rintro ⟨x, ρ, H⟩ hp
  simp only [projE, Prod.mk.injEq] at hp
  obtain ⟨h1, h2⟩ := hp
  cases x <;> simp at h1
  refine ⟨.bool true, ?_, rfl⟩
  have e : g4.fn.results.toList = [.tmp 6] := rfl
  simp only [Ev.look] at h2
  simp only [resV, e, resAll, resOf, h2, Option.bind_some, Option.map_some]

theorem c20_back (c0 c1 c2 c3 c4 c5 c6 c7 c8 c9 c10 c11 c12 c13 c14 c15 c16 c17 : UInt8) (H : AHeap) :
    runw ctx2 20 [opV c0.toNat (get64 [c1, c2, c3, c4, c5, c6, c7, c8]) (get64 [c9, c10, c11, c12, c13, c14, c15, c16]) c17.toNat] H = some (.tuple ⟨[.string ⟨#[c0, c1, c2, c3, c4, c5, c6, c7, c8, c9, c10, c11, c12, c13, c14, c15, c16, c17]⟩, .bool true]⟩, H) := by
  have h0 := c0.toNat_lt
  have h1 := c17.toNat_lt
  rw [c20_yes ⟨by omega, by omega⟩ ⟨by omega, by omega⟩ (get64_range ..) (get64_range ..), opS_back]
theorem c21_back (c0 c1 c2 c3 c4 c5 c6 c7 c8 c9 : UInt8) (h : c1.toNat ≤ 1) (H : AHeap) :
    runw ctx2 21 [anV c0.toNat ((c1.toNat : Int) == 1) (get64 [c2, c3, c4, c5, c6, c7, c8, c9])] H = some (.tuple ⟨[.string ⟨#[c0, c1, c2, c3, c4, c5, c6, c7, c8, c9]⟩, .bool true]⟩, H) := by
  have h0 := c0.toNat_lt
  rw [c21_yes _ ⟨by omega, by omega⟩ (get64_range ..), anS_back c0 c1 c2 c3 c4 c5 c6 c7 c8 c9 h]

end Go.Proofs.YtiiabmpobgoajaaGreat
