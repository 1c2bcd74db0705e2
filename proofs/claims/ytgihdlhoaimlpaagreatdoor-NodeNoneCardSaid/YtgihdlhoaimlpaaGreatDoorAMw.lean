/- The abstract machine: the plan of a drawn region, by places. -/
import Derived.Test.YtgihdlhoaimlpaaGreatDoorAMv
namespace Go.Proofs.YtgihdlhoaimlpaaGreatDoor.AM
set_option autoImplicit false
set_option linter.unusedSimpArgs false
set_option linter.unusedVariables false

section
variable {P : Program} {G nt : Nat} {call : CallF} {ops : Array Oper} {bf pl : List Nat}

/-- What the closed looks say. -/
structure PlanOK (P : Program) (ops : Array Oper) (bf pl : List Nat) : Prop where
  inj : ∀ (p q j : Nat), pl[p]? = some j → pl[q]? = some j → p = q
  surj : ∀ (j : Nat), j < ops.size → ∃ p : Nat, pl[p]? = some j
  lt : ∀ (p j : Nat), pl[p]? = some j → j < ops.size
  ahd : ∀ (p j i : Nat), pl[p]? = some j → ahead bf j i = true → ∃ q : Nat, q < p ∧ pl[q]? = some i
  mvp : ∀ (p m q i : Nat), pl[p]? = some m → isMv P ops m = true → q < p → pl[q]? = some i → ahead bf m i = true
  edge : ∀ (j : Nat) (o : Oper), ops[j]? = some o → ∀ e ∈ o.after, Region.binds .any e = true → e.on < j
  dst : ∀ (i j d : Nat), dstOf ops i = some d → dstOf ops j = some d → i = j
  bits : ∀ (j i : Nat), ahead bf j i = true → ∃ o, ops[j]? = some o ∧ ∃ e ∈ o.after, Region.binds .any e = true ∧ (e.on = i ∨ ahead bf e.on i = true)

def bitStep (acc : List Nat) (s : Nat) (e : Edge) : Nat := if Region.binds .any e then s ||| (1 <<< e.on) ||| acc.getD e.on 0 else s

theorem bits_fold (acc : List Nat) (i : Nat) : ∀ (l : List Edge) (s : Nat), (l.foldl (bitStep acc) s).testBit i = true →
    s.testBit i = true ∨ ∃ e ∈ l, Region.binds .any e = true ∧ (e.on = i ∨ (acc.getD e.on 0).testBit i = true)
  | [], s, h => .inl h
  | e :: l, s, h => by
    rw [List.foldl_cons] at h
    rcases bits_fold acc i l _ h with h1 | ⟨e', he, h1⟩
    · unfold bitStep at h1
      split at h1
      · rename_i hb
        rw [Nat.testBit_or, Nat.testBit_or, Bool.or_eq_true, Bool.or_eq_true] at h1
        rcases h1 with (h1 | h1) | h1
        · exact .inl h1
        · refine .inr ⟨e, by simp, hb, .inl ?_⟩
          rw [Nat.testBit_shiftLeft] at h1
          simp only [Bool.and_eq_true, decide_eq_true_eq] at h1
          have h2 := h1.2
          rw [Nat.testBit_one_eq_true_iff_self_eq_zero] at h2
          omega
        · exact .inr ⟨e, by simp, hb, .inr h1⟩
      · exact .inl h1
    · exact .inr ⟨e', by simp [he], h1⟩

theorem before_spec : ∀ (l : List Oper) (acc : List Nat), ∃ t, before l acc = acc ++ t ∧ ∀ (k : Nat) (b : Nat), t[k]? = some b → ∃ o, l[k]? = some o ∧ b = o.after.toList.foldl (bitStep (acc ++ t.take k)) 0
  | [], acc => ⟨[], by simp [before], by simp⟩
  | o :: l, acc => by
    obtain ⟨t, h1, h2⟩ := before_spec l (acc ++ [o.after.toList.foldl (bitStep acc) 0])
    refine ⟨o.after.toList.foldl (bitStep acc) 0 :: t, ?_, fun k b hb => ?_⟩
    · have : before (o :: l) acc = before l (acc ++ [o.after.toList.foldl (bitStep acc) 0]) := rfl
      rw [this, h1]; simp
    · cases k with
      | zero => simp at hb; exact ⟨o, by simp, by simp [hb]⟩
      | succ k =>
        obtain ⟨o', h3, h4⟩ := h2 k b (by simpa using hb)
        exact ⟨o', by simpa using h3, by simpa using h4⟩

theorem ahead_bits {l : List Oper} {j i : Nat} (h : ahead (before l []) j i = true) : ∃ o, l[j]? = some o ∧ ∃ e ∈ o.after, Region.binds .any e = true ∧ (e.on = i ∨ ahead (before l []) e.on i = true) := by
  obtain ⟨t, h1, h2⟩ := before_spec l []
  rw [h1] at h ⊢
  simp only [List.nil_append] at h ⊢
  unfold ahead at h
  cases ht : t[j]? with
  | none => simp [List.getD_eq_getElem?_getD, ht] at h
  | some b =>
    obtain ⟨o, ho, hb⟩ := h2 j b ht
    refine ⟨o, ho, ?_⟩
    simp only [List.getD_eq_getElem?_getD, ht, Option.getD_some] at h
    rw [hb] at h
    rcases bits_fold _ i _ _ h with h3 | ⟨e, he, hbi, h3⟩
    · simp at h3
    · refine ⟨e, by simpa using he, hbi, h3.imp id fun h4 => ?_⟩
      unfold ahead
      simp only [List.nil_append, List.getD_eq_getElem?_getD, List.getElem?_take] at h4 ⊢
      split at h4
      · exact h4
      · simp at h4

theorem nodupB_iff : ∀ (l : List Nat), nodupB l = true → l.Nodup
  | [], _ => List.nodup_nil
  | x :: l, h => by
    simp only [nodupB, Bool.and_eq_true, Bool.not_eq_true', List.contains_eq_mem, decide_eq_false_iff_not] at h
    exact List.nodup_cons.2 ⟨h.1, nodupB_iff l h.2⟩

theorem planOk_spec {n : Nat} : ∀ (l pre : List Nat), planOk P ops bf n pre l = true → ∀ (p j : Nat), l[p]? = some j →
    j < n ∧ (∀ i, i < n → ahead bf j i = true → i ∈ pre ++ l.take p) ∧ (isMv P ops j = true → ∀ i ∈ pre ++ l.take p, ahead bf j i = true)
  | [], pre, _, p, j, h => by simp at h
  | x :: l, pre, e, p, j, h => by
    simp only [planOk, Bool.and_eq_true, Bool.or_eq_true, Bool.not_eq_true', List.all_eq_true, List.mem_range, List.contains_eq_mem, decide_eq_true_eq] at e
    obtain ⟨⟨⟨e1, e2⟩, e3⟩, e4⟩ := e
    cases p with
    | zero =>
      simp only [List.getElem?_cons_zero, Option.some.injEq] at h; subst h
      refine ⟨Nat.le_of_ble_eq_true e1, fun i hi ha => ?_, fun hm i hi => ?_⟩
      · rcases e2 i hi with h | h
        · rw [ha] at h; cases h
        · simpa using h
      · rcases e3 with h | h
        · rw [hm] at h; cases h
        · exact h i (by simpa using hi)
    | succ p =>
      have := planOk_spec l (pre ++ [x]) e4 p j (by simpa using h)
      simpa using this

theorem nodup_inj : ∀ {l : List Nat}, l.Nodup → ∀ {p q j : Nat}, l[p]? = some j → l[q]? = some j → p = q
  | [], _, p, q, j, h1, _ => by simp at h1
  | x :: l, h, p, q, j, h1, h2 => by
    obtain ⟨h3, h4⟩ := List.nodup_cons.1 h
    cases p with
    | zero =>
      simp only [List.getElem?_cons_zero, Option.some.injEq] at h1; subst h1
      cases q with
      | zero => rfl
      | succ q => exact absurd (List.mem_of_getElem? (by simpa using h2)) h3
    | succ p =>
      cases q with
      | zero =>
        simp only [List.getElem?_cons_zero, Option.some.injEq] at h2; subst h2
        exact absurd (List.mem_of_getElem? (by simpa using h1)) h3
      | succ q => exact congrArg (· + 1) (nodup_inj (j := j) h4 (by simpa using h1) (by simpa using h2))

theorem mem_take {l : List Nat} {p i : Nat} (h : i ∈ l.take p) : ∃ q, q < p ∧ l[q]? = some i := by
  obtain ⟨q, hq⟩ := List.getElem?_of_mem h
  rw [List.getElem?_take] at hq
  split at hq
  · rename_i h1; exact ⟨q, h1, hq⟩
  · cases hq

theorem take_mem {l : List Nat} {p q i : Nat} (h : q < p) (e : l[q]? = some i) : i ∈ l.take p := by
  have : (l.take p)[q]? = some i := by rw [List.getElem?_take, if_pos h]; exact e
  exact List.mem_of_getElem? this

theorem filterMap_inj {α : Type} (f : α → Option Nat) : ∀ (l : List α), (l.filterMap f).Nodup → ∀ (i j : Nat) (x y : α) (d : Nat), l[i]? = some x → l[j]? = some y → f x = some d → f y = some d → i = j
  | [], _, i, j, x, y, d, h, _, _, _ => by simp at h
  | a :: l, nd, i, j, x, y, d, hi, hj, hx, hy => by
    have nd' : (l.filterMap f).Nodup := by
      rw [List.filterMap_cons] at nd
      split at nd
      · exact nd
      · exact (List.nodup_cons.1 nd).2
    have no : ∀ (k : Nat) (z : α), l[k]? = some z → f a = some d → f z = some d → False := fun k z hk h1 h2 => by
      rw [List.filterMap_cons, h1] at nd
      exact (List.nodup_cons.1 nd).1 (List.mem_filterMap.2 ⟨z, List.mem_of_getElem? hk, h2⟩)
    cases i with
    | zero =>
      simp only [List.getElem?_cons_zero, Option.some.injEq] at hi; subst hi
      cases j with
      | zero => rfl
      | succ j => exact (no j y (by simpa using hj) hx hy).elim
    | succ i =>
      cases j with
      | zero =>
        simp only [List.getElem?_cons_zero, Option.some.injEq] at hj; subst hj
        exact (no i x (by simpa using hi) hy hx).elim
      | succ j => rw [filterMap_inj f l nd' i j x y d (by simpa using hi) (by simpa using hj) hx hy]

theorem drawOk_plan (h : drawOk P ops = true) : PlanOK P ops (before ops.toList []) (planOf P ops.toList) := by
  simp only [drawOk, Bool.and_eq_true] at h
  obtain ⟨⟨⟨⟨h1, h2⟩, h3⟩, h4⟩, h5⟩ := h
  have sz : ops.toList.length = ops.size := by simp
  have nd := nodupB_iff _ h3
  have sp := planOk_spec _ _ h5
  refine ⟨fun p q j a b => nodup_inj nd a b, fun j hj => ?_, fun p j a => ?_, fun p j i a b => ?_, fun p m q i a b c d => ?_, fun j o ho e he hb => ?_, fun i j d hi hj => ?_, fun j i a => ?_⟩
  · rw [List.all_eq_true] at h4
    have := h4 j (List.mem_range.2 (by rw [sz]; exact hj))
    exact List.getElem?_of_mem (by simpa using this)
  · have := (sp p j a).1; rwa [sz] at this
  · have hi : i < ops.toList.length := by
      clear h5 sp
      have lt : ∀ (n j : Nat), j < n → ahead (before ops.toList []) j i = true → i < j := by
        intro n
        induction n with
        | zero => intro j hj; omega
        | succ n ih =>
          intro j hj ha
          obtain ⟨o, ho, e, he, hb, h6⟩ := ahead_bits ha
          have hlt : e.on < j := by
            rw [List.all_eq_true] at h1
            have := h1 (o, j) (by rw [List.mk_mem_zipIdx_iff_getElem?]; exact ho)
            simp only [List.all_eq_true, Bool.or_eq_true, Bool.not_eq_true'] at this
            rcases this e (by simpa using he) with h7 | h7
            · rw [hb] at h7; cases h7
            · exact Nat.le_of_ble_eq_true h7
          rcases h6 with h6 | h6
          · omega
          · exact Nat.lt_trans (ih e.on (by omega) h6) hlt
      obtain ⟨o, ho, _⟩ := ahead_bits b
      have := lt (j + 1) j (by omega) b
      have := (List.getElem?_eq_some_iff.1 ho).1
      omega
    have := (sp p j a).2.1 i hi b
    exact mem_take (by simpa using this)
  · exact (sp p m a).2.2 b i (by simpa using take_mem c d)
  · rw [List.all_eq_true] at h1
    have := h1 (o, j) (by rw [List.mk_mem_zipIdx_iff_getElem?]; simpa using ho)
    simp only [List.all_eq_true, Bool.or_eq_true, Bool.not_eq_true'] at this
    rcases this e (by simpa using he) with h7 | h7
    · rw [hb] at h7; cases h7
    · exact Nat.le_of_ble_eq_true h7
  · have nd2 := nodupB_iff _ h2
    unfold dstOf at hi hj
    rw [Option.bind_eq_some_iff] at hi hj
    obtain ⟨x, hx, hx'⟩ := hi
    obtain ⟨y, hy, hy'⟩ := hj
    exact filterMap_inj _ _ nd2 i j x y d (by simpa using hx) (by simpa using hy) hx' hy'
  · obtain ⟨o, ho, r⟩ := ahead_bits a
    exact ⟨o, by simpa using ho, r⟩

/-- The plan's run, by places. -/
structure RunOK (P : Program) (G nt : Nat) (call : CallF) (ops : Array Oper) (bf pl : List Nat) (S : Nat → DR) : Prop where
  step : ∀ (p j : Nat), pl[p]? = some j → ∃ o, ops[j]? = some o ∧ drawStep P G nt call ops bf (peOf P ops bf (pl.take p) j o) (S p) = some (S (p + 1))

theorem run_places : ∀ (l pre : List Nat) (pe : List PE) (d d' : DR), peGo P ops bf pre l = some pe → drawGo P G nt call ops bf pe d = some d' →
    ∃ S : Nat → DR, S 0 = d ∧ S l.length = d' ∧ ∀ (p j : Nat), l[p]? = some j → ∃ o, ops[j]? = some o ∧ drawStep P G nt call ops bf (peOf P ops bf (pre ++ l.take p) j o) (S p) = some (S (p + 1))
  | [], pre, pe, d, d', h1, h2 => by
    simp [peGo] at h1; subst h1
    simp [drawGo] at h2; subst h2
    exact ⟨fun _ => d, rfl, rfl, by simp⟩
  | j :: l, pre, pe, d, d', h1, h2 => by
    simp only [peGo] at h1
    split at h1
    · rename_i o m ho hm
      simp only [Option.some.injEq] at h1; subst h1
      simp only [drawGo] at h2
      split at h2
      · rename_i d1 hd
        obtain ⟨S, s1, s2, s3⟩ := run_places l (pre ++ [j]) m d1 d' hm h2
        refine ⟨fun n => match n with | 0 => d | n + 1 => S n, rfl, by simpa using s2, fun p i hp => ?_⟩
        cases p with
        | zero =>
          simp only [List.getElem?_cons_zero, Option.some.injEq] at hp; subst hp
          exact ⟨o, ho, by simpa [s1] using hd⟩
        | succ p =>
          obtain ⟨o', h3, h4⟩ := s3 p i (by simpa using hp)
          exact ⟨o', h3, by simpa using h4⟩
      · cases h2
    · cases h1

end
end Go.Proofs.YtgihdlhoaimlpaaGreatDoor.AM
