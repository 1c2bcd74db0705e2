/- The abstract machine: calls, and a step of a frame. -/
import Derived.Test.YtgihdlhoaimlpaaGreatDoorAMq
namespace Go.Proofs.YtgihdlhoaimlpaaGreatDoor.AM
set_option autoImplicit false
set_option linter.unusedSimpArgs false
set_option linter.unusedVariables false

/-- Whatever calls it: the call of the function gives a value and a world of which R holds. -/
def CallsTo (P : Program) (f : Nat) (args : Array Value) (w : World) (R : Value → World → Prop) : Prop :=
  ∀ (o : Oper) (a : Act) (K : Act → World → Prop) (Q : Exit → Act → World → Prop), (∀ v w', R v w' → K (a.put o.dst v) w') → o.upon P a K Q ((callFunc f args).run P w)

def CallOK (P : Program) (G : Nat) (call : CallF) : Prop :=
  ∀ f args h v h', call f args h = some (v, h') → ∀ (ρ : Ren) (w : World) (args' : Array Value), Sim ρ h w → GOK ρ G → Fresh ρ h h' → LRel ρ args args'.toList →
    CallsTo P f args' w (fun v' w' => ∃ ρ', Step ρ h w ρ' h' w' ∧ VRel ρ' v v')

def DRel (ρ : Ren) : List (Nat × List V) → List Deferred → Prop
  | [], [] => True
  | (f, l) :: ds, d :: ds' => (∃ cap, d.target = .fn (.func f) cap ∧ LRel ρ l (d.args ++ cap).toList) ∧ DRel ρ ds ds'
  | _, _ => False

theorem DRel.mono {ρ ρ' : Ren} (h : Ext ρ ρ') : ∀ {l : List (Nat × List V)} {l' : List Deferred}, DRel ρ l l' → DRel ρ' l l'
  | [], [], _ => trivial
  | (f, l) :: ds, d :: ds', r => by
    simp only [DRel] at r ⊢
    obtain ⟨⟨cap, h1, h2⟩, h3⟩ := r
    exact ⟨⟨cap, h1, h2.mono h⟩, h3.mono h⟩
  | [], _ :: _, r => by simp [DRel] at r
  | _ :: _, [], r => by simp [DRel] at r

/-- A frame shows a state. -/
structure FRel (ρ : Ren) (nt : Nat) (s : St) (a : Act) (w : World) : Prop where
  sim : Sim ρ s.h w
  env : ERel ρ nt s.env a.tmps
  ds : DRel ρ s.ds a.defers

theorem callee_ok {P : Program} {ρ : Ren} {nt G : Nat} {env : T V} {a : Act} {c : Call} {f ty : Nat} {args : List V} (r : ERel ρ nt env a.tmps) (g : GOK ρ G) (e : calleeV P G env c = some (f, args)) :
    ∃ args' : Array Value, LRel ρ args args'.toList ∧ (∀ w, (do let d ← resolve a.eval c ty; invoke d.target d.args : Sem Next).run P w = (callFunc f args').run P w) ∧
      (∀ x, c.callee = .value x → ∀ w, ∃ d : Deferred, (resolve a.eval c ty).run P w = .ok d w ∧ ∃ cap, d.target = .fn (.func f) cap ∧ d.args ++ cap = args') := by
  unfold calleeV at e
  split at e
  · rename_i x l hc hl
    have hL := opL_rel r g hl
    split at e
    · rename_i f' first cap hx
      simp only [Option.some.injEq, Prod.mk.injEq] at e; obtain ⟨rfl, rfl⟩ := e
      obtain ⟨x', y', h1, h2, h3⟩ := inv_fn (opV_rel r g hx)
      refine ⟨x' ++ c.args.map a.eval ++ y', ?_, fun w => ?_, fun x2 hx2 w => ?_⟩
      · simp only [Array.toList_append, Array.toList_map]
        exact (h2.append hL).append h3
      · simp [resolve, hc, h1, Deferred.ofValue, invoke]
      · exact ⟨{ target := .fn (.func f') y', args := x' ++ c.args.map a.eval }, by simp [resolve, hc, h1, Deferred.ofValue], y', rfl, rfl⟩
    · cases e
  · rename_i x name l hc hl
    have hL := opL_rel r g hl
    split at e
    · rename_i t v hx
      obtain ⟨v', h1, h2⟩ := inv_iface (opV_rel r g hx)
      split at e
      · rename_i i el hi hu
        split at e
        · rename_i m hm
          split at e
          · rename_i hp
            split at e
            · rename_i f' hf
              simp only [Option.some.injEq, Prod.mk.injEq] at e; obtain ⟨rfl, rfl⟩ := e
              refine ⟨#[v'] ++ c.args.map a.eval, ?_, fun w => ?_, fun x2 hx2 => by rw [hc] at hx2; cases hx2⟩
              · simp only [Array.toList_append, Array.toList_map, List.cons_append, List.nil_append, LRel]
                exact ⟨h2, hL⟩
              · have hm' : i.methods.find? (fun x => x.name == name) = some m := by rw [← Array.find?_toList]; exact hm
                have hpe : m.path = #[] := by simpa using hp
                have hext : (#[Value.iface t v'] ++ c.args.map a.eval).extract 1 (#[Value.iface t v'] ++ c.args.map a.eval).size = c.args.map a.eval := by
                  apply Array.ext'; simp; exact List.take_of_length_le (by simp)
                have hmeth : ∀ n, (method (n + 1) t v' name).run P w = .ok (f', v') w := fun n => by
                  simp [method, typeInfo, hi, hm', hpe, follow, hf, receiverAt, run_und hu, Place.get]
                have hdep : ∃ n, P.types.size + Made.depth = n + 1 := ⟨P.types.size + Made.depth - 1, by have : 0 < Made.depth := by decide
                                                                                                         omega⟩
                obtain ⟨n, hn⟩ := hdep
                have h0 : (#[Value.iface t v'] ++ c.args.map a.eval)[0]? = some (.iface t v') := by rw [Array.getElem?_append_left (Nat.zero_lt_one)]; rfl
                have hr : (resolve a.eval c ty).run P w = .ok { target := .fn (.method name) #[], args := #[.iface t v'] ++ c.args.map a.eval } w := by simp [resolve, hc, h1]
                rw [Sem.run_bind, hr, Result.andThen_ok]
                simp only [invoke, h0]
                rw [hext]
                simp only [callMethod]
                rw [Sem.run_bind, run_program, Result.andThen_ok, hn, Sem.run_bind, hmeth, Result.andThen_ok]
            · cases e
          · cases e
        · cases e
      · cases e
    · cases e
  · cases e

end Go.Proofs.YtgihdlhoaimlpaaGreatDoor.AM
