/- The abstract machine: what a heap of the model shows, and one step of both. -/
import Derived.Test.YtgihdlhoaimlpaaGreatDoorAMa
namespace Go.Proofs.YtgihdlhoaimlpaaGreatDoor.AM
set_option autoImplicit false
set_option linter.unusedSimpArgs false

inductive Blk : Type where
  | row (e : Nat) (cs : List V) (opn ro : Bool)
  | map (es : List (V × V × Nat)) (clock : Nat)
  | siter (s : List Nat) (pos : Nat)
  | miter (m : Option Nat) (since : Nat) (seen : List Nat) (stepped : Nat)

def Blk.ro : Blk → Bool
  | .row _ _ _ r => r
  | _ => false

structure H where
  t : T Blk
  n : Nat

def H.get (h : H) (b : Nat) : Option Blk := h.t.get b
def H.put (h : H) (b : Nat) (x : Blk) : H := { h with t := h.t.set b (some x) }
def H.kill (h : H) (b : Nat) : H := { h with t := h.t.set b none }
def H.new (h : H) (x : Blk) : H := { t := h.t.set h.n (some x), n := h.n + 1 }

@[simp] theorem H.get_put (h : H) (b c : Nat) (x : Blk) : (h.put b x).get c = if c = b then some x else h.get c := by simp [H.get, H.put]
@[simp] theorem H.get_kill (h : H) (b c : Nat) : (h.kill b).get c = if c = b then none else h.get c := by simp [H.get, H.kill]
@[simp] theorem H.get_new (h : H) (c : Nat) (x : Blk) : (h.new x).get c = if c = h.n then some x else h.get c := by simp [H.get, H.new]
@[simp] theorem H.n_put (h : H) (b : Nat) (x : Blk) : (h.put b x).n = h.n := rfl
@[simp] theorem H.n_kill (h : H) (b : Nat) : (h.kill b).n = h.n := rfl
@[simp] theorem H.n_new (h : H) (x : Blk) : (h.new x).n = h.n + 1 := rfl

def Ext (ρ ρ' : Ren) : Prop := ∀ b x, ρ b = some x → ρ' b = some x ∨ ρ' b = some none

theorem Ext.refl (ρ : Ren) : Ext ρ ρ := fun _ _ h => .inl h
theorem Ext.trans {a b c : Ren} (h : Ext a b) (k : Ext b c) : Ext a c := fun i x hx => by
  rcases h i x hx with h | h
  · exact k i x h
  · rcases k i _ h with k | k <;> exact .inr k

theorem PRel.mono {ρ ρ' : Ren} (h : Ext ρ ρ') {b o : Nat} {a : Addr} (r : PRel ρ b o a) : PRel ρ' b o a := by
  refine ⟨r.1, ?_⟩
  rcases r.2 with r | ⟨W, hW, r⟩
  · rcases h b _ r with h | h <;> exact .inl h
  · rcases h b _ hW with h | h
    · exact .inr ⟨W, h, r⟩
    · exact .inl h

theorem CRel.mono {ρ ρ' : Ren} (h : Ext ρ ρ') {sz b o c c' : Nat} {a : Addr} (p : PRel ρ b o a) (r : CRel ρ sz b o c c') : CRel ρ' sz b o c c' := by
  intro W hW
  rcases p.2 with p | ⟨W', p, _⟩
  · rcases h b _ p with h | h <;> rw [h] at hW <;> simp at hW
  · rcases h b _ p with h | h
    · rw [h] at hW; simp at hW; subst hW; exact r _ p
    · rw [h] at hW; simp at hW

mutual
theorem VRel.mono {ρ ρ' : Ren} (h : Ext ρ ρ') : ∀ (v : V) (v' : Value), VRel ρ v v' → VRel ρ' v v'
  | .int k n, v', r => by cases v' <;> simp_all [VRel]
  | .bool b, v', r => by cases v' <;> simp_all [VRel]
  | .str s, v', r => by cases v' <;> simp_all [VRel]
  | .ptr b o, v', r => by
    cases v' with
    | pointer a => cases a with
      | none => simp [VRel] at r
      | some a => simp only [VRel] at r ⊢; exact r.mono h
    | _ => simp [VRel] at r
  | .nilp, v', r => by cases v' <;> first | (rename_i a; cases a <;> simp_all [VRel]; done) | simp_all [VRel]
  | .sl sz b o l c, v', r => by
    cases v' with
    | slice a l' c' => cases a with
      | none => simp [VRel] at r
      | some a => simp only [VRel] at r ⊢; exact ⟨r.1, r.2.1, r.2.2.1, r.2.2.2.imp id fun q => ⟨q.1.mono h, CRel.mono h q.1 q.2⟩⟩
    | _ => simp [VRel] at r
  | .nils, v', r => by
    cases v' with
    | slice a l' c' => cases a <;> cases l' <;> cases c' <;> simp_all [VRel]
    | _ => simp [VRel] at r
  | .map b, v', r => by
    cases v' with
    | map a => cases a with
      | none => simp [VRel] at r
      | some a =>
        simp only [VRel] at r ⊢
        rcases r with r | ⟨W, hW, r⟩
        · rcases h b _ r with h | h <;> exact .inl h
        · rcases h b _ hW with h | h
          · exact .inr ⟨W, h, r⟩
          · exact .inl h
    | _ => simp [VRel] at r
  | .nilm, v', r => by cases v' <;> first | (rename_i a; cases a <;> simp_all [VRel]; done) | simp_all [VRel]
  | .fn f x y, v', r => by
    cases v' with
    | func g x' y' => cases g <;> simp only [VRel] at r ⊢; exact ⟨r.1, LRel.mono h x _ r.2.1, LRel.mono h y _ r.2.2⟩
    | _ => simp [VRel] at r
  | .nilf, v', r => by cases v' <;> simp_all [VRel]
  | .iface t v, v', r => by
    cases v' with
    | iface t' v' => simp only [VRel] at r ⊢; exact ⟨r.1, VRel.mono h v _ r.2⟩
    | _ => simp [VRel] at r
  | .nili, v', r => by cases v' <;> simp_all [VRel]
  | .agg l, v', r => by
    cases v' with
    | agg l' => simp only [VRel] at r ⊢; exact LRel.mono h l _ r
    | _ => simp [VRel] at r
  | .tup l, v', r => by
    cases v' with
    | tuple l' => simp only [VRel] at r ⊢; exact LRel.mono h l _ r
    | _ => simp [VRel] at r
  | .any, v', r => by simp only [VRel] at r ⊢; exact r
  | .rng k lo hi, v', r => by cases v' <;> simp_all [VRel]
theorem LRel.mono {ρ ρ' : Ren} (h : Ext ρ ρ') : ∀ (l : List V) (l' : List Value), LRel ρ l l' → LRel ρ' l l'
  | [], l', r => by cases l' <;> simp_all [LRel]
  | v :: l, l', r => by
    cases l' with
    | nil => simp [LRel] at r
    | cons v' l' => simp only [LRel] at r ⊢; exact ⟨VRel.mono h v _ r.1, LRel.mono h l _ r.2⟩
end

theorem LRel.length {ρ : Ren} : ∀ {l : List V} {l' : List Value}, LRel ρ l l' → l'.length = l.length
  | [], [], _ => rfl
  | _ :: _, _ :: _, r => by simp only [LRel] at r; simp [LRel.length r.2]
  | [], _ :: _, r => by simp [LRel] at r
  | _ :: _, [], r => by simp [LRel] at r

theorem LRel.get {ρ : Ren} : ∀ {l : List V} {l' : List Value}, LRel ρ l l' → ∀ (i : Nat) (v : V), l[i]? = some v → ∃ v', l'[i]? = some v' ∧ VRel ρ v v'
  | [], [], _, i, v, h => by simp at h
  | a :: l, a' :: l', r, i, v, h => by
    simp only [LRel] at r
    cases i with
    | zero => simp at h; subst h; exact ⟨a', by simp, r.1⟩
    | succ i => simpa using LRel.get r.2 i v (by simpa using h)
  | [], _ :: _, r, _, _, _ => by simp [LRel] at r
  | _ :: _, [], r, _, _, _ => by simp [LRel] at r

theorem LRel.append {ρ : Ren} : ∀ {l m : List V} {l' m' : List Value}, LRel ρ l l' → LRel ρ m m' → LRel ρ (l ++ m) (l' ++ m')
  | [], _, [], _, _, k => by simpa using k
  | _ :: _, _, _ :: _, _, r, k => by simp only [LRel, List.cons_append] at r ⊢; exact ⟨r.1, LRel.append r.2 k⟩
  | [], _, _ :: _, _, r, _ => by simp [LRel] at r
  | _ :: _, _, [], _, r, _ => by simp [LRel] at r

theorem LRel.of_get {ρ : Ren} : ∀ {l : List V} {l' : List Value}, l'.length = l.length → (∀ (i : Nat) (v : V), l[i]? = some v → ∃ v', l'[i]? = some v' ∧ VRel ρ v v') → LRel ρ l l'
  | [], [], _, _ => by simp [LRel]
  | a :: l, a' :: l', hl, h => by
    simp only [LRel]
    refine ⟨?_, LRel.of_get (by simpa using hl) fun i v hi => ?_⟩
    · obtain ⟨v', h1, h2⟩ := h 0 a (by simp); simp at h1; subst h1; exact h2
    · obtain ⟨v', h1, h2⟩ := h (i + 1) v (by simpa using hi); exact ⟨v', by simpa using h1, h2⟩
  | [], _ :: _, hl, _ => by simp at hl
  | _ :: _, [], hl, _ => by simp at hl

theorem LRel.take {ρ : Ren} {l : List V} {l' : List Value} (r : LRel ρ l l') (n : Nat) : LRel ρ (l.take n) (l'.take n) := by
  refine LRel.of_get (by simp [r.length]) fun i v h => ?_
  rw [List.getElem?_take] at h ⊢
  split at h
  · obtain ⟨v', h1, h2⟩ := r.get i v h; exact ⟨v', by simp [*], h2⟩
  · simp at h

theorem LRel.drop {ρ : Ren} {l : List V} {l' : List Value} (r : LRel ρ l l') (n : Nat) : LRel ρ (l.drop n) (l'.drop n) := by
  refine LRel.of_get (by simp [r.length]) fun i v h => ?_
  rw [List.getElem?_drop] at h ⊢
  exact r.get _ v h

def EntsRel (ρ : Ren) : List (V × V × Nat) → List MapEntry → Prop
  | [], [] => True
  | (k, v, b) :: l, e :: l' => VRel ρ k e.key ∧ VRel ρ v e.val ∧ e.born = b ∧ EntsRel ρ l l'
  | _, _ => False

theorem EntsRel.mono {ρ ρ' : Ren} (h : Ext ρ ρ') : ∀ {l : List (V × V × Nat)} {l' : List MapEntry}, EntsRel ρ l l' → EntsRel ρ' l l'
  | [], [], r => r
  | (k, v, b) :: l, e :: l', r => by simp only [EntsRel] at r ⊢; exact ⟨VRel.mono h _ _ r.1, VRel.mono h _ _ r.2.1, r.2.2.1, EntsRel.mono h r.2.2.2⟩
  | [], _ :: _, r => by simp [EntsRel] at r
  | _ :: _, [], r => by simp [EntsRel] at r

theorem nofr {a b fin i : Nat} (h : a = b ∨ fin ≤ a) (hi : i < fin) : ¬ (a ≤ i ∧ i < b) := by omega

def BlkRel (ρ : Ren) (w : World) : Blk → Win → Prop
  | .row e cs opn ro, W => ∃ c fr, w.heap[W.blk]? = some (.cells c e fr) ∧ cs.length = W.size ∧ W.sh + W.size ≤ W.fin ∧ W.fin ≤ c.size ∧
      (opn = false → W.fin = W.sh + W.size) ∧ (∀ i v, cs[i]? = some v → ∃ v', c[W.sh + i]? = some v' ∧ VRel ρ v v') ∧
      (ro = false → fr.1 = fr.2 ∨ W.fin ≤ fr.1)
  | .map es clock, W => W.sh = 0 ∧ ∃ es', w.heap[W.blk]? = some (.map es' clock) ∧ EntsRel ρ es es'.toList
  | .siter s pos, W => W.sh = 0 ∧ ∃ s', w.heap[W.blk]? = some (.stringIter s' pos) ∧ strOf s' = s
  | .miter m since seen stepped, W => W.sh = 0 ∧ ∃ m', w.heap[W.blk]? = some (.mapIter m' since seen.toArray stepped) ∧
      (match m, m' with | none, none => True | some b, some r => ρ b = some none ∨ ∃ W', ρ b = some (some W') ∧ r = W'.blk | _, _ => False)

theorem BlkRel.mono {ρ ρ' : Ren} (h : Ext ρ ρ') {w w' : World} {x : Blk} {W : Win} (hw : w'.heap[W.blk]? = w.heap[W.blk]?) (r : BlkRel ρ w x W) : BlkRel ρ' w' x W := by
  cases x with
  | row e cs opn ro =>
    obtain ⟨c, fr, h1, h2, h3, h4, h5, h6, h7⟩ := r
    exact ⟨c, fr, hw.trans h1, h2, h3, h4, h5, fun i v hi => let ⟨v', a, b⟩ := h6 i v hi; ⟨v', a, VRel.mono h _ _ b⟩, h7⟩
  | map es clock =>
    obtain ⟨h0, es', h1, h2⟩ := r
    exact ⟨h0, es', hw.trans h1, h2.mono h⟩
  | siter s pos =>
    obtain ⟨h0, s', h1, h2⟩ := r
    exact ⟨h0, s', hw.trans h1, h2⟩
  | miter m since seen stepped =>
    obtain ⟨h0, m', h1, h2⟩ := r
    refine ⟨h0, m', hw.trans h1, ?_⟩
    cases m <;> cases m' <;> simp only at h2 ⊢
    rename_i b r
    rcases h2 with r | ⟨W, hW, r⟩
    · rcases h b _ r with h | h <;> exact .inl h
    · rcases h b _ hW with h | h
      · exact .inr ⟨W, h, r⟩
      · exact .inl h

structure Sim (ρ : Ren) (h : H) (w : World) : Prop where
  live : ∀ b x, h.get b = some x → ∃ W, ρ b = some (some W) ∧ BlkRel ρ w x W
  inj : ∀ b c x y W U, h.get b = some x → h.get c = some y → ρ b = some (some W) → ρ c = some (some U) → W.blk = U.blk → b = c ∨ (x.ro = true ∧ y.ro = true)

def Mut (ρ : Ren) (h : H) (k : Nat) : Prop := ∃ b x W, h.get b = some x ∧ x.ro = false ∧ ρ b = some (some W) ∧ W.blk = k
def Liv (ρ : Ren) (h : H) (k : Nat) : Prop := ∃ b x W, h.get b = some x ∧ ρ b = some (some W) ∧ W.blk = k

structure Step (ρ : Ren) (h : H) (w : World) (ρ' : Ren) (h' : H) (w' : World) : Prop where
  sim : Sim ρ' h' w'
  ext : ∀ b x, ρ b = some x → ρ' b = some x ∨ (ρ' b = some none ∧ h.get b ≠ none)
  new : ∀ b, ρ b = none → ρ' b ≠ none → h.n ≤ b ∧ b < h'.n
  live : ∀ b, h'.get b ≠ none → h.get b ≠ none ∨ (h.n ≤ b ∧ b < h'.n)
  nn : h.n ≤ h'.n
  size : w.heap.size ≤ w'.heap.size
  tape : w'.tape = w.tape
  os : w'.os = w.os
  output : w'.output = w.output
  keep : ∀ k, k < w.heap.size → ¬ Mut ρ h k → w'.heap[k]? = w.heap[k]?
  mu : ∀ k, Mut ρ' h' k → w.heap.size ≤ k ∨ Mut ρ h k
  liv : ∀ k, Liv ρ' h' k → w.heap.size ≤ k ∨ Liv ρ h k

/-- The numbers that a piece of work gives out are nobody's yet. -/
def Fresh (ρ : Ren) (h h' : H) : Prop := ∀ b, h.n ≤ b → b < h'.n → ρ b = none

theorem Step.toExt {ρ ρ' : Ren} {h h' : H} {w w' : World} (s : Step ρ h w ρ' h' w') : Ext ρ ρ' := fun b x hx => (s.ext b x hx).imp id And.left

theorem Step.refl {ρ : Ren} {h : H} {w : World} (s : Sim ρ h w) : Step ρ h w ρ h w where
  sim := s
  ext := fun _ _ h => .inl h
  new := fun _ h h' => absurd h h'
  live := fun _ h => .inl h
  nn := Nat.le_refl _
  size := Nat.le_refl _
  tape := rfl
  os := rfl
  output := rfl
  keep := fun _ _ _ => rfl
  mu := fun _ h => .inr h
  liv := fun _ h => .inr h

/-- A draw turns nothing. -/
theorem Step.drew {ρ : Ren} {h : H} {w : World} (s : Sim ρ h w) (n : Nat) : Step ρ h w ρ h { w with drawn := n } where
  sim := ⟨fun b x hb => let ⟨W, h1, h2⟩ := s.live b x hb; ⟨W, h1, h2.mono (Ext.refl _) rfl⟩, s.inj⟩
  ext := fun _ _ h => .inl h
  new := fun _ h h' => absurd h h'
  live := fun _ h => .inl h
  nn := Nat.le_refl _
  size := Nat.le_refl _
  tape := rfl
  os := rfl
  output := rfl
  keep := fun _ _ _ => rfl
  mu := fun _ h => .inr h
  liv := fun _ h => .inr h

theorem Fresh.left {ρ : Ren} {h h₁ h₂ : H} (f : Fresh ρ h h₂) (hn : h₁.n ≤ h₂.n) : Fresh ρ h h₁ := fun b a c => f b a (Nat.lt_of_lt_of_le c hn)

theorem Fresh.right {ρ ρ₁ : Ren} {h h₁ h₂ : H} {w w₁ : World} (f : Fresh ρ h h₂) (s : Step ρ h w ρ₁ h₁ w₁) : Fresh ρ₁ h₁ h₂ := fun b a c => by
  have h0 := f b (Nat.le_trans s.nn a) c
  cases e : ρ₁ b with
  | none => rfl
  | some x => have := s.new b h0 (by rw [e]; simp); omega

theorem Step.trans {ρ ρ₁ ρ₂ : Ren} {h h₁ h₂ : H} {w w₁ w₂ : World} (f : Fresh ρ h h₂) (s : Step ρ h w ρ₁ h₁ w₁) (t : Step ρ₁ h₁ w₁ ρ₂ h₂ w₂) : Step ρ h w ρ₂ h₂ w₂ where
  sim := t.sim
  ext := fun b x hx => by
    have old : ρ b ≠ none := by rw [hx]; simp
    rcases s.ext b x hx with h1 | ⟨h1, h2⟩
    · rcases t.ext b x h1 with h3 | ⟨h3, h4⟩
      · exact .inl h3
      · refine .inr ⟨h3, ?_⟩
        rcases s.live b h4 with h5 | ⟨h5, h6⟩
        · exact h5
        · exact absurd (f b h5 (Nat.lt_of_lt_of_le h6 t.nn)) old
    · rcases t.ext b _ h1 with h3 | ⟨h3, _⟩ <;> exact .inr ⟨h3, h2⟩
  new := fun b h0 h2 => by
    by_cases h1 : ρ₁ b = none
    · have := t.new b h1 h2; exact ⟨Nat.le_trans s.nn this.1, this.2⟩
    · have := s.new b h0 h1; exact ⟨this.1, Nat.lt_of_lt_of_le this.2 t.nn⟩
  live := fun b hb => by
    rcases t.live b hb with h1 | h1
    · rcases s.live b h1 with h2 | h2
      · exact .inl h2
      · exact .inr ⟨h2.1, Nat.lt_of_lt_of_le h2.2 t.nn⟩
    · exact .inr ⟨Nat.le_trans s.nn h1.1, h1.2⟩
  nn := Nat.le_trans s.nn t.nn
  size := Nat.le_trans s.size t.size
  tape := t.tape.trans s.tape
  os := t.os.trans s.os
  output := t.output.trans s.output
  keep := fun k hk hm => by
    rw [t.keep k (Nat.lt_of_lt_of_le hk s.size) fun hm1 => ?_, s.keep k hk hm]
    rcases s.mu k hm1 with h1 | h1
    · omega
    · exact hm h1
  mu := fun k hm => by
    rcases t.mu k hm with h1 | h1
    · exact .inl (Nat.le_trans s.size h1)
    · exact s.mu k h1
  liv := fun k hm => by
    rcases t.liv k hm with h1 | h1
    · exact .inl (Nat.le_trans s.size h1)
    · exact s.liv k h1

end Go.Proofs.YtgihdlhoaimlpaaGreatDoor.AM
