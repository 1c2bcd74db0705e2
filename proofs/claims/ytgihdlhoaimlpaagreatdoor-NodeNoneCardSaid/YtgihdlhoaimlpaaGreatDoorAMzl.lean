/- The abstract machine: calls whose outcome is known by a run of its own. -/
import Derived.Test.YtgihdlhoaimlpaaGreatDoorAMzk
namespace Go.Proofs.YtgihdlhoaimlpaaGreatDoor.AM
set_option autoImplicit false
set_option linter.unusedSimpArgs false
set_option linter.unusedVariables false

abbrev HL := List (Nat × Blk)

def layL : HL → T Blk → T Blk
  | [], t => t
  | (b, x) :: l, t => (layL l t).set b (some x)

def wipeL : HL → T Blk → T Blk
  | [], t => t
  | (b, _) :: l, t => (wipeL l t).set b none

def hOf (l : HL) (n : Nat) : H := ⟨layL l .nil, n⟩

def hasL : HL → Nat → Bool
  | [], _ => false
  | (b, _) :: l, c => Nat.beq c b || hasL l c

/-- A list of blocks, turned: some go, some come or change. -/
def updL (l : HL) (rm : List Nat) (add : HL) : HL := add ++ l.filter fun p => !(rm.contains p.1) && !(hasL add p.1)

theorem layL_get : ∀ (l : HL) (t : T Blk) (b : Nat) (x : Blk), (layL l t).get b = some x → (b, x) ∈ l ∨ (t.get b = some x ∧ ∀ y, (b, y) ∉ l)
  | [], t, b, x, e => .inr ⟨e, by simp⟩
  | (c, y) :: l, t, b, x, e => by
    simp only [layL, T.get_set] at e
    split at e
    · rename_i h; subst h
      simp only [Option.some.injEq] at e; subst e
      exact .inl (by simp)
    · rename_i h
      rcases layL_get l t b x e with h1 | ⟨h1, h2⟩
      · exact .inl (by simp [h1])
      · exact .inr ⟨h1, fun z hz => by
          rcases List.mem_cons.1 hz with h3 | h3
          · simp only [Prod.mk.injEq] at h3; exact h h3.1
          · exact h2 z h3⟩

theorem layL_none : ∀ (l : HL) (t : T Blk) (b : Nat), (layL l t).get b = none → t.get b = none
  | [], t, b, e => e
  | (c, y) :: l, t, b, e => by
    simp only [layL, T.get_set] at e
    split at e
    · cases e
    · exact layL_none l t b e

theorem layL_not {l : HL} {t : T Blk} {b : Nat} (e : (layL l t).get b = none) : ∀ y, (b, y) ∉ l := by
  induction l with
  | nil => intro y h; cases h
  | cons p l ih =>
    obtain ⟨c, z⟩ := p
    simp only [layL, T.get_set] at e
    split at e
    · cases e
    · rename_i h
      intro y hy
      rcases List.mem_cons.1 hy with h1 | h1
      · simp only [Prod.mk.injEq] at h1; exact h h1.1
      · exact ih e y h1

theorem wipeL_get : ∀ (l : HL) (t : T Blk) (b : Nat) (x : Blk), (wipeL l t).get b = some x → t.get b = some x ∧ ∀ y, (b, y) ∉ l
  | [], t, b, x, e => ⟨e, by simp⟩
  | (c, y) :: l, t, b, x, e => by
    simp only [wipeL, T.get_set] at e
    split at e
    · cases e
    · rename_i h
      obtain ⟨h1, h2⟩ := wipeL_get l t b x e
      exact ⟨h1, fun z hz => by
        rcases List.mem_cons.1 hz with h3 | h3
        · simp only [Prod.mk.injEq] at h3; exact h h3.1
        · exact h2 z h3⟩

/-- A call on a part of a heap, and what it comes to: the value, and the part as it is then. -/
structure Memo where
  args : List V
  l : HL
  n : Nat
  v : V
  l' : HL
  n' : Nat

def holds (h : H) : HL → Bool
  | [] => true
  | (b, x) :: l => (match h.get b with
    | some y => blkEq x y
    | none => false) && holds h l

theorem holds_get {h : H} : ∀ {l : HL}, holds h l = true → ∀ b x, (b, x) ∈ l → h.get b = some x
  | [], _, b, x, hm => by cases hm
  | (c, y) :: l, e, b, x, hm => by
    simp only [holds, Bool.and_eq_true] at e
    rcases List.mem_cons.1 hm with h1 | h1
    · simp only [Prod.mk.injEq] at h1
      obtain ⟨rfl, rfl⟩ := h1
      have h2 := e.1
      split at h2
      · rename_i z hz; rw [hz, blkEq_eq _ _ h2]
      · cases h2
    · exact holds_get e.2 b x h1

def memoOK (call : List V → H → Option (V × H)) (m : Memo) : Bool := match call m.args (hOf m.l m.n) with
  | some (v, R) => beqV v m.v && Nat.beq R.n m.n' && holds R m.l'
  | none => false

def memoX : List Memo → List V → H → Option (V × H)
  | [], _, _ => none
  | m :: ms, args, h => bif Nat.beq h.n m.n && beqVs args m.args then (bif holds h m.l then some (m.v, ⟨layL m.l' (wipeL m.l h.t), m.n'⟩) else memoX ms args h) else memoX ms args h

section
variable {P : Program} {G f : Nat} {call : CallF}

theorem memo_one (co : CallOK P G call) {m : Memo} (ok : memoOK (call f) m = true) {args : List V} {h : H} (hn : Nat.beq h.n m.n = true) (ha : beqVs args m.args = true) (hh : holds h m.l = true)
    {ρ : Ren} {w : World} {args' : Array Value} (s : Sim ρ h w) (g : GOK ρ G) (fr : Fresh ρ h ⟨layL m.l' (wipeL m.l h.t), m.n'⟩) (r : LRel ρ args args'.toList) :
    CallsTo P f args' w (fun v' w' => ∃ ρ', Step ρ h w ρ' ⟨layL m.l' (wipeL m.l h.t), m.n'⟩ w' ∧ VRel ρ' m.v v') := by
  unfold memoOK at ok
  split at ok
  · rename_i v R hc
    simp only [Bool.and_eq_true] at ok
    obtain ⟨⟨h1, h2⟩, h3⟩ := ok
    have h1 := beqV_eq _ _ h1
    subst h1
    have h2 := Nat.eq_of_beq_eq_true h2
    have hn := Nat.eq_of_beq_eq_true hn
    have ha := beqVs_eq _ _ ha
    subst ha
    have sub : ∀ b x, (hOf m.l m.n).get b = some x → h.get b = some x := fun b x hx => by
      rcases layL_get _ _ b x hx with h4 | ⟨h4, _⟩
      · exact holds_get hh b x h4
      · rw [T.get_nil] at h4; cases h4
    have fr2 : Fresh ρ (hOf m.l m.n) R := fun b h4 h5 => fr b (by rw [hn]; exact h4) (by rw [h2] at h5; exact h5)
    have := co f m.args (hOf m.l m.n) _ R hc ρ w args' (s.sub sub) g fr2 r
    intro o a K Q k
    refine this o a K Q fun v' w' ⟨ρ', st, hv⟩ => k v' w' ⟨ρ', ?_, hv⟩
    refine Step.frame s sub st hn.symm fr (Nat.le_of_eq h2) fun b x hx => ?_
    have hx' : (layL m.l' (wipeL m.l h.t)).get b = some x := hx
    rcases layL_get _ _ b x hx' with h4 | ⟨h4, _⟩
    · exact .inl (holds_get h3 b x h4)
    · obtain ⟨h5, h6⟩ := wipeL_get _ _ b x h4
      refine .inr ⟨h5, ?_⟩
      cases hg : (hOf m.l m.n).get b with
      | none => rfl
      | some y =>
        rcases layL_get _ _ b y hg with h7 | ⟨h7, _⟩
        · exact absurd h7 (h6 y)
        · rw [T.get_nil] at h7; cases h7
  · cases ok

theorem memoX_ok (co : CallOK P G call) : ∀ {ms : List Memo}, (∀ m ∈ ms, memoOK (call f) m = true) → AnsOK P G f (memoX ms)
  | [], _, args, h, v, h', e => by simp [memoX] at e
  | m :: ms, a, args, h, v, h', e => fun ρ w args' s g fr r => by
    simp only [memoX] at e
    cases h1 : Nat.beq h.n m.n && beqVs args m.args with
    | false =>
      rw [h1] at e
      exact memoX_ok co (fun y hy => a y (by simp [hy])) args h v h' e ρ w args' s g fr r
    | true =>
      rw [h1] at e
      simp only [cond_true] at e
      cases h2 : holds h m.l with
      | false =>
        rw [h2] at e
        exact memoX_ok co (fun y hy => a y (by simp [hy])) args h v h' e ρ w args' s g fr r
      | true =>
        rw [h2] at e
        simp only [cond_true, Option.some.injEq, Prod.mk.injEq] at e
        obtain ⟨rfl, rfl⟩ := e
        simp only [Bool.and_eq_true] at h1
        exact memo_one co (a m (by simp)) h1.1 h1.2 h2 s g fr r

theorem memoX_n (cn : CallN call) : ∀ {ms : List Memo}, (∀ m ∈ ms, memoOK (call f) m = true) → AnsN (memoX ms)
  | [], _, args, h, v, h', e => by simp [memoX] at e
  | m :: ms, a, args, h, v, h', e => by
    simp only [memoX] at e
    cases h1 : Nat.beq h.n m.n && beqVs args m.args with
    | false =>
      rw [h1] at e
      exact memoX_n cn (fun y hy => a y (by simp [hy])) args h v h' e
    | true =>
      rw [h1] at e
      simp only [cond_true] at e
      cases h2 : holds h m.l with
      | false =>
        rw [h2] at e
        exact memoX_n cn (fun y hy => a y (by simp [hy])) args h v h' e
      | true =>
        rw [h2] at e
        simp only [cond_true, Option.some.injEq, Prod.mk.injEq] at e
        obtain ⟨rfl, rfl⟩ := e
        simp only [Bool.and_eq_true] at h1
        have hn := Nat.eq_of_beq_eq_true h1.1
        have ok := a m (by simp)
        unfold memoOK at ok
        split at ok
        · rename_i v R hc
          simp only [Bool.and_eq_true] at ok
          have h3 := Nat.eq_of_beq_eq_true ok.1.2
          have := cn _ _ _ _ _ hc
          show h.n ≤ m.n'
          rw [hn, ← h3]
          exact this
        · cases ok

/-- One answer, else another. -/
noncomputable def orX (g1 g2 : List V → H → Option (V × H)) (args : List V) (h : H) : Option (V × H) := Option.rec (g2 args h) some (g1 args h)

theorem orX_eq {g1 g2 : List V → H → Option (V × H)} {args : List V} {h : H} {r : V × H} (e : orX g1 g2 args h = some r) : g1 args h = some r ∨ g2 args h = some r := by
  unfold orX at e
  cases h1 : g1 args h with
  | none => rw [h1] at e; exact .inr e
  | some x => rw [h1] at e; exact .inl e

theorem orX_ok {g1 g2 : List V → H → Option (V × H)} (a : AnsOK P G f g1) (b : AnsOK P G f g2) : AnsOK P G f (orX g1 g2) := fun args h v h' e => by
  rcases orX_eq e with e | e
  · exact a args h v h' e
  · exact b args h v h' e

theorem orX_n {g1 g2 : List V → H → Option (V × H)} (a : AnsN g1) (b : AnsN g2) : AnsN (orX g1 g2) := fun args h v h' e => by
  rcases orX_eq e with e | e
  · exact a args h v h' e
  · exact b args h v h' e

/-- Known calls, else the call itself. -/
theorem memoE_ok (co : CallOK P G call) {ms : List Memo} (ok : ∀ m ∈ ms, memoOK (call f) m = true) : AnsOK P G f (orX (memoX ms) (call f)) := orX_ok (memoX_ok co ok) fun args h v h' e => co f args h v h' e
theorem memoE_n (cn : CallN call) {ms : List Memo} (ok : ∀ m ∈ ms, memoOK (call f) m = true) : AnsN (orX (memoX ms) (call f)) := orX_n (memoX_n cn ok) fun args h v h' e => cn f args h v h' e

end
end Go.Proofs.YtgihdlhoaimlpaaGreatDoor.AM
