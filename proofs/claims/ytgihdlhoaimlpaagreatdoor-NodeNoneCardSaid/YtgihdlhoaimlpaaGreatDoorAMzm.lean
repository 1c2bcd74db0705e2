/- The abstract machine: from a run to a call, where package-level variables are known to be there. -/
import Derived.Test.YtgihdlhoaimlpaaGreatDoorAMzl
import Derived.Deep.DeepHandedRow
namespace Go.Proofs.YtgihdlhoaimlpaaGreatDoor.AM
set_option autoImplicit false
set_option linter.unusedSimpArgs false
set_option linter.unusedVariables false
open Go.RowKit

/-- A package-level variable of an interface's type, listed as laid: it holds one cell. -/
theorem global_one {P : Program} {W : World} {g t t' : Nat} {zero : Array Value} {name : String} {ms : Array (String × TypeId)} {laid : List (String × DataW Unit)} {d : DataW Unit} (hsh : W.ShapedOpen P) (hg : g < P.globals.size)
    (h0 : ((begin P (fun _ _ => 0) default).world.heap[g]?).bind Obj.row? = some (zero, t)) (hz : zero.size = 1) (hn : P.globalNamed name = some g) (hT : (P.globals[g]?).map (·.type) = some t') (hu : P.underlying t' = some (.interface ms))
    (hm : (name, d) ∈ laid) (hl : laidMet P laid W) : ∃ v, W.heap[g]? = some (.cells #[v] t (0, 0)) ∧ v.oneCell' = true := by
  obtain ⟨cs, hh, hs, _⟩ := hsh.1 g zero t hg h0
  obtain ⟨ps, hv, _, _⟩ := hl
  have key : ∀ (l : List (String × DataW Unit)) (ps : List MemPlace), DataW.LaidVars P W l ps → (name, d) ∈ l → ∃ cs' fuel p, W.var? P name = some cs' ∧ DataW.trod (fun _ => ()) P W 0 (fun _ => true) false fuel t' cs'.toList = some (d, p) := by
    intro l
    induction l with
    | nil => intro ps _ h; cases h
    | cons x l ih =>
      obtain ⟨n, e⟩ := x
      intro ps h hmem
      obtain ⟨g2, t2, cs2, fuel, p, q, a1, a2, a3, a4, a5, a6⟩ := h
      rcases List.mem_cons.1 hmem with h1 | h1
      · simp only [Prod.mk.injEq] at h1
        obtain ⟨rfl, rfl⟩ := h1
        rw [hn] at a1; cases a1
        rw [hT] at a2; cases a2
        exact ⟨cs2, fuel, p, a3, a4⟩
      · exact ih q a5 h1
  obtain ⟨cs', fuel, p, hvar, htr⟩ := key laid ps hv hm
  have hcs : cs' = cs := by
    simp only [World.var?, hn, Option.bind_some, hh, Option.some.injEq] at hvar
    exact hvar.symm
  subst hcs
  cases fuel with
  | zero => simp [DataW.trod] at htr
  | succ fuel =>
    obtain ⟨l⟩ := cs'
    simp only [DataW.trod, hu] at htr
    have h1 : l.length = 1 := by simpa [hz] using hs
    obtain ⟨v, rfl⟩ := List.length_eq_one_iff.1 h1
    refine ⟨v, hh, ?_⟩
    cases v <;> first | rfl | (simp at htr)

/-- At first: some package-level variables are known, all read-only; nothing else is there. -/
theorem calls_bool_h {P : Program} (np : Plain P) {G : Nat} {call : CallF} (co : CallOK P G call)
    {f : Nat} {fn : Func} {c : Code} (hf : P.funcs[f]? = some fn) (hb : fn.body = some c) {args : List V} {b : Bool} {h0 : H} (run : isB b (call f args h0) = true) {args' : Array Value} (w : World) {ρ0 : Ren}
    (sim : Sim ρ0 h0 w) (gk : GOK ρ0 G) (fr : ∀ x, h0.n ≤ x → ρ0 x = none) (ro : ∀ b x, h0.get b = some x → x.ro = true) (ha : LRel ρ0 args args'.toList) :
    Calls P f args' w fun e w' => e = .returned (.bool b) ∧ Below w.heap.size w w' := by
  unfold isB at run
  split at run
  · rename_i x h' e
    have hx : x = b := by simpa using run
    subst hx
    refine Calls.mono (calls_of_callsTo np hf hb (co f args h0 _ h' e ρ0 w args' sim gk (fun b h1 _ => fr b h1) ha)) fun e' w' he => ?_
    obtain ⟨v, rfl, ρ', st, hv⟩ := he
    obtain rfl := inv_bool hv
    exact ⟨rfl, st.os, st.tape, st.output, st.size, fun k hk => st.keep k hk fun ⟨b, x, W, h1, h2, _⟩ => by rw [ro b x h1] at h2; cases h2⟩
  · cases run

/-- One package-level variable of one cell. -/
def ren1 (G g : Nat) : Ren := fun b => if b = g then some (some ⟨g, 0, 1, 1⟩) else if b < G then some none else none

theorem sim1 {G g t : Nat} {w : World} {v : Value} (hw : w.heap[g]? = some (.cells #[v] t (0, 0))) (hv : v.oneCell' = true) : Sim (ren1 G g) (hOf [(g, .row t [.any] false true)] G) w := by
  have hget : ∀ b x, (hOf [(g, .row t [.any] false true)] G).get b = some x → b = g ∧ x = .row t [.any] false true := fun b x h => by
    rcases layL_get _ _ b x h with h1 | ⟨h1, _⟩
    · simp only [List.mem_singleton, Prod.mk.injEq] at h1; exact h1
    · rw [T.get_nil] at h1; cases h1
  refine ⟨fun b x h => ?_, fun b c x y W U h1 h2 _ _ _ => ?_⟩
  · obtain ⟨rfl, rfl⟩ := hget b x h
    refine ⟨⟨b, 0, 1, 1⟩, by simp [ren1], #[v], (0, 0), hw, rfl, by simp, by simp, fun _ => rfl, fun i u hi => ?_, fun h => by cases h⟩
    cases i with
    | zero =>
      simp only [List.getElem?_cons_zero, Option.some.injEq] at hi; subst hi
      exact ⟨v, by simp, by simpa [VRel] using hv⟩
    | succ i => simp at hi
  · obtain ⟨rfl, _⟩ := hget b x h1
    obtain ⟨rfl, _⟩ := hget c y h2
    exact .inl rfl

theorem gok1 {G g : Nat} (hg : g < G) : GOK (ren1 G g) G := fun b hb => by
  refine ⟨rfl, ?_⟩
  by_cases h : b = g
  · exact .inr ⟨⟨g, 0, 1, 1⟩, by simp [ren1, h], by simp [h], by simp⟩
  · exact .inl (by simp [ren1, h, hb])

theorem fresh1 {G g : Nat} (hg : g < G) (x : Nat) (hx : G ≤ x) : ren1 G g x = none := by
  have h1 : x ≠ g := by omega
  have h2 : ¬ x < G := by omega
  simp [ren1, h1, h2]

end Go.Proofs.YtgihdlhoaimlpaaGreatDoor.AM
