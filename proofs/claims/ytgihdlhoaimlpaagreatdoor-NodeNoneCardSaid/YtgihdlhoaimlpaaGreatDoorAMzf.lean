/- The abstract machine: from a run to a call, from an empty heap: of all that was there nothing is turned. -/
import Derived.Test.YtgihdlhoaimlpaaGreatDoorAMze
import Derived.Below
namespace Go.Proofs.YtgihdlhoaimlpaaGreatDoor.AM
set_option autoImplicit false
set_option linter.unusedSimpArgs false
set_option linter.unusedVariables false
open Go.RowKit

/-- At first: of the package-level variables nothing is known; nothing else is there. -/
def ren0 (G : Nat) : Ren := fun b => if b < G then some none else none

theorem sim0 (G : Nat) (w : World) : Sim (ren0 G) ⟨.nil, G⟩ w := ⟨fun b x h => by simp [H.get, T.get] at h, fun b c x y W U h => by simp [H.get, T.get] at h⟩
theorem gok0 (G : Nat) : GOK (ren0 G) G := fun g hg => ⟨rfl, .inl (by simp [ren0, hg])⟩
theorem fresh0 (G : Nat) (h : H) : Fresh (ren0 G) ⟨.nil, G⟩ h := fun b h1 h2 => by
  have : ¬ b < G := Nat.not_lt.2 h1
  simp [ren0, this]

theorem below0 {G : Nat} {w w' : World} {ρ' : Ren} {h' : H} (s : Step (ren0 G) ⟨.nil, G⟩ w ρ' h' w') : Below w.heap.size w w' :=
  ⟨s.os, s.tape, s.output, s.size, fun k hk => s.keep k hk fun ⟨b, x, W, h, _⟩ => by simp [H.get, T.get] at h⟩

theorem calls_of_callsTo {P : Program} (np : Plain P) {f : Nat} {fn : Func} {c : Code} (hf : P.funcs[f]? = some fn) (hb : fn.body = some c) {args : Array Value} {w : World} {R : Value → World → Prop}
    (h : CallsTo P f args w R) : Calls P f args w fun e w' => ∃ v, e = .returned v ∧ R v w' := by
  let o : Oper := { dst := some 0, op := .move (.tmp 0), type := 0, pos := "", after := #[], guard := none }
  have := h o ⟨#[undef], []⟩ (fun a w' => R (a.tmps.getD 0 undef) w') (fun _ _ _ => False) (fun v w' hv => by simpa [Act.put, o] using hv)
  rw [run_callFunc np hf hb] at this
  refine Calls.mono this fun e w' he => ?_
  cases e with
  | returned v => exact ⟨v, rfl, by simpa [Act.put, o] using he⟩
  | panicked _ => exact he.elim
  | outgrown => obtain ⟨_, _, h⟩ := he; exact h.elim

def isB (b : Bool) : Option (V × H) → Bool
  | some (.bool x, _) => x == b
  | _ => false

/-- A RUN OF THE ABSTRACT MACHINE THAT ENDS IN A BOOL: so does the call, in every world, whatever is drawn; nothing of the old memory is turned. -/
theorem calls_bool {P : Program} (np : Plain P) (hm : P.follows .mixedOrders = true) {G : Nat} {l : List (Nat × (List V → H → Option (V × H)))} (lo : ∀ y ∈ l, AnsOK P G y.1 y.2) (ln : ∀ y ∈ l, AnsN y.2)
    {n f : Nat} {fn : Func} {c : Code} (hf : P.funcs[f]? = some fn) (hb : fn.body = some c) {args : List V} {b : Bool}
    (run : isB b ((fcl P G (extOf l) n f).run args ⟨.nil, G⟩) = true) {args' : Array Value} (ha : ∀ ρ, LRel ρ args args'.toList) (w : World) :
    Calls P f args' w fun e w' => e = .returned (.bool b) ∧ Below w.heap.size w w' := by
  rw [fcl_eq] at run
  unfold isB at run
  have ok := evF_ok np (extOf_ok lo) (extOf_n ln) (allDraws (G := G) hm) n
  split at run
  · rename_i x h' e
    have hx : x = b := by simpa using run
    subst hx
    refine Calls.mono (calls_of_callsTo np hf hb (ok f args ⟨.nil, G⟩ _ h' e (ren0 G) w args' (sim0 G w) (gok0 G) (fresh0 G h') (ha _))) fun e' w' he => ?_
    obtain ⟨v, rfl, ρ', st, hv⟩ := he
    obtain rfl := inv_bool hv
    exact ⟨rfl, below0 st⟩
  · cases run

end Go.Proofs.YtgihdlhoaimlpaaGreatDoor.AM
