/- The abstract machine: what the plan's run keeps; and a world in which other orders have run. -/
import Derived.Test.YtgihdlhoaimlpaaGreatDoorAMw
namespace Go.Proofs.YtgihdlhoaimlpaaGreatDoor.AM
set_option autoImplicit false
set_option linter.unusedSimpArgs false
set_option linter.unusedVariables false

section
variable {P : Program} {G nt : Nat} {call : CallF} {ops : Array Oper} {bf pl : List Nat} {S : Nat → DR} {N : Nat}

def Kp (S : Nat → DR) (p : Nat) : Nat := (S p).hs.length - 1

def envAt (P : Program) (ops : Array Oper) (bf pl : List Nat) (S : Nat → DR) (p j : Nat) (o : Oper) : T V := dropL (peOf P ops bf (pl.take p) j o).drops (S p).s.env

/-- One place of the plan, told. -/
inductive Told (P : Program) (G nt : Nat) (call : CallF) (ops : Array Oper) (bf : List Nat) (p : PE) (d d' : DR) : Prop where
  | off (e : T V) (hg : guardV ops (dropL p.drops d.s.env) p.o = some false) (hp : putD nt d.s.env p.o.dst (.tup []) = some e) (hk : (kindOf P p.o).1 ≠ 2)
      (h : d' = ⟨{ d.s with env := e }, d.hs, d.al⟩)
  | offMv (e : T V) (hg : guardV ops (dropL p.drops d.s.env) p.o = some false) (hp : putD nt d.s.env p.o.dst (.tup []) = some e) (hk : (kindOf P p.o).1 = 2)
      (h : d' = ⟨{ d.s with env := e }, d.hs ++ [(d.s.h, d.s.ds)], d.al⟩)
  | read (e : T V) (v : V) (hg : guardV ops (dropL p.drops d.s.env) p.o = some true) (hk : (kindOf P p.o).1 = 0) (hp : putD nt d.s.env p.o.dst v = some e)
      (hv : ∀ (k : Nat) (x : H × List (Nat × List V)), p.low ≤ k → d.hs[k]? = some x → rdAll P G (overA bf p.j k d.al x.1) (dropL p.drops d.s.env) p.o = some v)
      (h : d' = ⟨{ d.s with env := e }, d.hs, d.al⟩)
  | alloc (e : T V) (v : V) (h' : H) (x : Blk) (hg : guardV ops (dropL p.drops d.s.env) p.o = some true) (hk : (kindOf P p.o).1 = 1) (hp : putD nt d.s.env p.o.dst v = some e)
      (ha : alOp P G d.s.h (dropL p.drops d.s.env) p.o = some (v, h')) (hx : h'.get d.s.h.n = some x)
      (h : d' = ⟨{ d.s with env := e, h := h' }, d.hs, d.al ++ [(p.j, d.hs.length - 1, d.s.h.n, x)]⟩)
  | mover (e : T V) (v : V) (h' : H) (ds : List (Nat × List V)) (hg : guardV ops (dropL p.drops d.s.env) p.o = some true) (hk : (kindOf P p.o).1 = 2)
      (hp : putD nt d.s.env p.o.dst v = some e) (hm : mvOp P G call ⟨dropL p.drops d.s.env, d.s.h, d.s.ds⟩ p.o = some (v, h', ds))
      (h : d' = ⟨⟨e, h', ds⟩, d.hs ++ [(h', ds)], d.al⟩)

theorem sameFrom_spec {j : Nat} {al : List (Nat × Nat × Nat × Blk)} {env : T V} {o : Oper} {v : V} : ∀ (l : List (H × List (Nat × List V))) (k : Nat), sameFrom P G bf j al env o v k l = true →
    ∀ (i : Nat) (x : H × List (Nat × List V)), l[i]? = some x → rdAll P G (overA bf j (k + i) al x.1) env o = some v
  | [], k, _, i, x, h => by simp at h
  | (y, z) :: l, k, e, i, x, h => by
    simp only [sameFrom, Bool.and_eq_true] at e
    obtain ⟨e1, e2⟩ := e
    cases i with
    | zero =>
      simp only [List.getElem?_cons_zero, Option.some.injEq] at h; subst h
      split at e1
      · rename_i u hu; rw [← beqV_eq _ _ e1]; exact hu
      · cases e1
    | succ i =>
      have := sameFrom_spec l (k + 1) e2 i x (by simpa using h)
      rw [show k + (i + 1) = k + 1 + i by omega]; exact this

theorem told {p : PE} {d d' : DR} (e : drawStep P G nt call ops bf p d = some d') : Told P G nt call ops bf p d d' := by
  unfold drawStep at e
  simp only at e
  split at e
  · cases e
  · rename_i hg
    simp only [Option.map_eq_some_iff] at e
    obtain ⟨e1, h1, rfl⟩ := e
    cases hk : Nat.beq (kindOf P p.o).1 2 with
    | true =>
      have hk' : (kindOf P p.o).1 = 2 := Nat.eq_of_beq_eq_true hk
      exact .offMv e1 hg h1 hk' (by simp)
    | false =>
      have hk' : (kindOf P p.o).1 ≠ 2 := Nat.ne_of_beq_eq_false hk
      exact .off e1 hg h1 hk' (by simp)
  · rename_i hg
    split at e
    · rename_i hk
      split at e
      · cases e
      · rename_i h0 d0 l hl
        split at e
        · cases e
        · rename_i v hv
          split at e
          · rename_i hs
            simp only [Option.map_eq_some_iff] at e
            obtain ⟨e1, h1, rfl⟩ := e
            refine .read e1 v hg hk h1 (fun k x hk2 hx => ?_) rfl
            have hd : (d.hs.drop p.low)[k - p.low]? = some x := by rw [List.getElem?_drop, show p.low + (k - p.low) = k by omega]; exact hx
            rw [hl] at hd
            by_cases hz : k = p.low
            · subst hz
              simp only [Nat.sub_self, List.getElem?_cons_zero, Option.some.injEq] at hd; subst hd
              exact hv
            · obtain ⟨i, hi⟩ : ∃ i, k - p.low = i + 1 := ⟨k - p.low - 1, by omega⟩
              rw [hi] at hd
              have := sameFrom_spec l (p.low + 1) hs i x (by simpa using hd)
              rw [show p.low + 1 + i = k by omega] at this
              exact this
          · cases e
    · rename_i hk
      split at e
      · cases e
      · rename_i v h1 ha
        split at e
        · cases e
        · rename_i x hx
          simp only [Option.map_eq_some_iff] at e
          obtain ⟨e1, hp, rfl⟩ := e
          exact .alloc e1 v h1 x hg hk hp ha hx rfl
    · rename_i hk
      split at e
      · cases e
      · rename_i v h1 ds hm
        simp only [Option.map_eq_some_iff] at e
        obtain ⟨e1, hp, rfl⟩ := e
        exact .mover e1 v h1 ds hg hk hp hm rfl
    · cases e

theorem putD_get {env env' : T V} {dst : Option Nat} {v : V} (e : putD nt env dst v = some env') (d : Nat) : env'.get d = if dst = some d then some v else env.get d := by
  unfold AM.putD at e
  split at e
  · simp only [Option.some.injEq] at e; subst e; simp
  · rename_i x
    cases hb : Nat.blt x nt with
    | false => rw [hb] at e; cases e
    | true =>
      rw [hb] at e
      simp only [cond_true, Option.some.injEq] at e; subst e
      simp only [T.get_set, Option.some.injEq]
      by_cases h : d = x
      · subst h; simp
      · rw [if_neg h, if_neg (Ne.symm h)]

theorem kind_mv {j : Nat} {o : Oper} (ho : ops[j]? = some o) : isMv P ops j = true ↔ (kindOf P o).1 = 2 := by
  unfold isMv
  simp only [ho]
  exact ⟨Nat.eq_of_beq_eq_true, fun h => by rw [h]; rfl⟩

/-- What holds at each place. -/
structure Good (P : Program) (G nt : Nat) (call : CallF) (ops : Array Oper) (bf pl : List Nat) (S : Nat → DR) (p : Nat) : Prop where
  pos : 0 < (S p).hs.length
  last : ∃ hl, (S p).hs[Kp S p]? = some (hl, (S p).s.ds) ∧ hl.n ≤ (S p).s.h.n ∧ ∀ b x, (S p).s.h.get b = some x → hl.get b = some x ∨ ∃ a, (a, Kp S p, b, x) ∈ (S p).al
  env : ∀ (t : Nat) (v : V), (S p).s.env.get t = some v → (∃ q j : Nat, q < p ∧ pl[q]? = some j ∧ dstOf ops j = some t ∧ (S (q + 1)).s.env.get t = some v) ∨ ((S 0).s.env.get t = some v ∧ ∀ q j : Nat, q < p → pl[q]? = some j → dstOf ops j ≠ some t)
  al : ∀ a st id x, (a, st, id, x) ∈ (S p).al → ∃ (q : Nat) (o : Oper) (v : V), q < p ∧ pl[q]? = some a ∧ ops[a]? = some o ∧ id = (S q).s.h.n ∧ st = Kp S q ∧ (kindOf P o).1 = 1 ∧
    guardV ops (envAt P ops bf pl S q a o) o = some true ∧ alOp P G (S q).s.h (envAt P ops bf pl S q a o) o = some (v, (S (q + 1)).s.h) ∧ (S (q + 1)).s.h.get id = some x
  rank : Kp S p = 0 ∨ ∃ q m : Nat, q < p ∧ pl[q]? = some m ∧ isMv P ops m = true ∧ Kp S q + 1 = Kp S p
  before : ∀ (q m : Nat), q < p → pl[q]? = some m → isMv P ops m = true → Kp S q + 1 ≤ Kp S p
  hs : ∀ (q : Nat), q ≤ p → ∀ (k : Nat) (x : H × List (Nat × List V)), (S q).hs[k]? = some x → (S p).hs[k]? = some x
  als : ∀ (q : Nat), q ≤ p → ∀ y ∈ (S q).al, y ∈ (S p).al
  nn : ∀ (q : Nat), q ≤ p → (S q).s.h.n ≤ (S p).s.h.n
  kk : ∀ (q : Nat), q ≤ p → Kp S q ≤ Kp S p
  cnt : Kp S p = (pl.take p).countP (isMv P ops)

theorem take_succ {l : List Nat} {p j : Nat} (h : l[p]? = some j) : l.take (p + 1) = l.take p ++ [j] := by
  rw [List.take_add_one, h]; rfl

theorem good (cn : CallN call) (r : RunOK P G nt call ops bf pl S) {h0 : H} {ds0 : List (Nat × List V)} {env0 : T V} (s0 : S 0 = ⟨⟨env0, h0, ds0⟩, [(h0, ds0)], []⟩) :
    ∀ p, p ≤ pl.length → Good P G nt call ops bf pl S p
  | 0, _ => by
    refine ⟨by simp [s0], ⟨h0, by simp [Kp, s0], by simp [s0], fun b x h => .inl (by simpa [s0] using h)⟩, fun t v h => .inr ⟨h, fun q j hq => by omega⟩, by simp [s0], .inl (by simp [Kp, s0]), by omega, fun q hq => ?_, fun q hq => ?_, fun q hq => ?_, fun q hq => ?_, by simp [Kp, s0]⟩
    all_goals (have : q = 0 := by omega)
    all_goals (subst this)
    · exact fun k x h => h
    · exact fun y h => h
    · exact Nat.le_refl _
    · exact Nat.le_refl _
  | p + 1, hp => by
    have g := good cn r s0 p (by omega)
    obtain ⟨j, hj⟩ : ∃ j, pl[p]? = some j := ⟨pl[p], by rw [List.getElem?_eq_some_iff]; exact ⟨by omega, rfl⟩⟩
    obtain ⟨o, ho, hd⟩ := r.step p j hj
    have t := told hd
    have hn := drawStep_n cn hd
    obtain ⟨hl, l1, l2, l3⟩ := g.last
    have gp := g.pos
    have oo : (peOf P ops bf (pl.take p) j o).o = o := rfl
    have jj : (peOf P ops bf (pl.take p) j o).j = j := rfl
    -- what is alike
    have env : ∀ (e : T V) (v : V), putD nt (S p).s.env o.dst v = some e → (S (p + 1)).s.env = e → ∀ (t : Nat) (v : V), (S (p + 1)).s.env.get t = some v →
        (∃ q j : Nat, q < p + 1 ∧ pl[q]? = some j ∧ dstOf ops j = some t ∧ (S (q + 1)).s.env.get t = some v) ∨ ((S 0).s.env.get t = some v ∧ ∀ q j : Nat, q < p + 1 → pl[q]? = some j → dstOf ops j ≠ some t) := fun e u h1 h2 t v h => by
      by_cases hdd : o.dst = some t
      · exact .inl ⟨p, j, by omega, hj, by simp [dstOf, ho, hdd], h⟩
      · rw [h2, putD_get h1, if_neg hdd] at h
        rcases g.env t v h with ⟨q, i, a, b⟩ | a
        · exact .inl ⟨q, i, by omega, b⟩
        · refine .inr ⟨a.1, fun q i hq hi => ?_⟩
          by_cases hqp : q = p
          · subst hqp; rw [hj] at hi; cases hi
            intro hx; exact hdd (by simpa [dstOf, ho] using hx)
          · exact a.2 q i (by omega) hi
    -- nothing moved
    have still : ∀ (e : T V) (v : V) (h' : H) (al' : List (Nat × Nat × Nat × Blk)), putD nt (S p).s.env o.dst v = some e → (kindOf P o).1 ≠ 2 → S (p + 1) = ⟨{ (S p).s with env := e, h := h' }, (S p).hs, (S p).al ++ al'⟩ →
        (∀ b x, h'.get b = some x → (S p).s.h.get b = some x ∨ ∃ a, (a, Kp S p, b, x) ∈ al') →
        (∀ a st id x, (a, st, id, x) ∈ al' → ∃ (q : Nat) (o : Oper) (v : V), q < p + 1 ∧ pl[q]? = some a ∧ ops[a]? = some o ∧ id = (S q).s.h.n ∧ st = Kp S q ∧ (kindOf P o).1 = 1 ∧
          guardV ops (envAt P ops bf pl S q a o) o = some true ∧ alOp P G (S q).s.h (envAt P ops bf pl S q a o) o = some (v, (S (q + 1)).s.h) ∧ (S (q + 1)).s.h.get id = some x) →
        Good P G nt call ops bf pl S (p + 1) := fun e v h' al' hput hk hS hh hal => by
      have hkp : Kp S (p + 1) = Kp S p := by simp [Kp, hS]
      have hnm : isMv P ops j = false := by
        cases hb : isMv P ops j with
        | false => rfl
        | true => exact absurd ((kind_mv ho).1 hb) hk
      have hS' := hS
      refine ⟨by rw [hS]; exact gp, ⟨hl, ?_, ?_, ?_⟩, env e v hput (by rw [hS]), ?_, ?_, ?_, ?_, ?_, ?_, ?_, ?_⟩
      · rw [hkp, hS]; exact l1
      · exact Nat.le_trans l2 hn
      · intro b x hb
        rw [hkp]
        rw [hS] at hb ⊢
        rcases hh b x hb with h1 | ⟨a, h1⟩
        · rcases l3 b x h1 with h2 | ⟨a, h2⟩
          · exact .inl h2
          · exact .inr ⟨a, List.mem_append.2 (.inl h2)⟩
        · exact .inr ⟨a, List.mem_append.2 (.inr h1)⟩
      · intro a st id x hm
        rw [hS] at hm
        rcases List.mem_append.1 hm with hm | hm
        · obtain ⟨q, o, v, h1, h2⟩ := g.al a st id x hm
          exact ⟨q, o, v, by omega, h2⟩
        · exact hal a st id x hm
      · rw [hkp]
        rcases g.rank with h1 | ⟨q, m, h1, h2⟩
        · exact .inl h1
        · exact .inr ⟨q, m, by omega, h2⟩
      · intro q m hq hm hmv
        rw [hkp]
        by_cases hqp : q = p
        · subst hqp; rw [hj] at hm; cases hm; rw [hnm] at hmv; cases hmv
        · exact g.before q m (by omega) hm hmv
      · intro q hq k x hx
        by_cases hqp : q = p + 1
        · subst hqp; exact hx
        · rw [hS]; exact g.hs q (by omega) k x hx
      · intro q hq y hy
        by_cases hqp : q = p + 1
        · subst hqp; exact hy
        · rw [hS]; exact List.mem_append.2 (.inl (g.als q (by omega) y hy))
      · intro q hq
        by_cases hqp : q = p + 1
        · subst hqp; exact Nat.le_refl _
        · exact Nat.le_trans (g.nn q (by omega)) hn
      · intro q hq
        by_cases hqp : q = p + 1
        · subst hqp; exact Nat.le_refl _
        · rw [hkp]; exact g.kk q (by omega)
      · rw [hkp, take_succ hj, List.countP_append, g.cnt]
        simp [List.countP_cons, hnm]
    have moved : ∀ (e : T V) (v : V) (h' : H) (ds : List (Nat × List V)), putD nt (S p).s.env o.dst v = some e → (kindOf P o).1 = 2 → S (p + 1) = ⟨⟨e, h', ds⟩, (S p).hs ++ [(h', ds)], (S p).al⟩ →
        Good P G nt call ops bf pl S (p + 1) := fun e v h' ds hput hk hS => by
      have hkp : Kp S (p + 1) = Kp S p + 1 := by simp [Kp, hS]; omega
      have hlen : (S p).hs.length = Kp S p + 1 := by simp [Kp]; omega
      have hmv : isMv P ops j = true := (kind_mv ho).2 hk
      refine ⟨by rw [hS]; simp, ⟨h', ?_, ?_, ?_⟩, env e v hput (by rw [hS]), ?_, ?_, ?_, ?_, ?_, ?_, ?_, ?_⟩
      · rw [hkp, hS]
        simp only
        rw [← hlen]; simp
      · rw [hS]; exact Nat.le_refl _
      · intro b x hb
        rw [hS] at hb; exact .inl hb
      · intro a st id x hm
        rw [hS] at hm
        obtain ⟨q, o, v, h1, h2⟩ := g.al a st id x hm
        exact ⟨q, o, v, by omega, h2⟩
      · exact .inr ⟨p, j, by omega, hj, hmv, hkp.symm⟩
      · intro q m hq hm hmv'
        rw [hkp]
        by_cases hqp : q = p
        · subst hqp; exact Nat.le_refl _
        · have := g.before q m (by omega) hm hmv'; omega
      · intro q hq k x hx
        by_cases hqp : q = p + 1
        · subst hqp; exact hx
        · rw [hS]
          have := g.hs q (by omega) k x hx
          simp only
          rw [List.getElem?_append_left (List.getElem?_eq_some_iff.1 this).1]
          exact this
      · intro q hq y hy
        by_cases hqp : q = p + 1
        · subst hqp; exact hy
        · rw [hS]; exact g.als q (by omega) y hy
      · intro q hq
        by_cases hqp : q = p + 1
        · subst hqp; exact Nat.le_refl _
        · exact Nat.le_trans (g.nn q (by omega)) hn
      · intro q hq
        by_cases hqp : q = p + 1
        · subst hqp; exact Nat.le_refl _
        · have := g.kk q (by omega); omega
      · rw [hkp, take_succ hj, List.countP_append, g.cnt]
        simp [List.countP_cons, hmv]
    cases t with
    | off e hg hput hk h => exact still e _ (S p).s.h [] hput hk (by rw [h]; simp) (fun b x h => .inl h) (by simp)
    | offMv e hg hput hk h => exact moved e _ (S p).s.h (S p).s.ds hput hk h
    | read e v hg hk hput hv h => exact still e v (S p).s.h [] hput (by rw [oo] at hk; omega) (by rw [h]; simp) (fun b x h => .inl h) (by simp)
    | alloc e v h' x hg hk hput ha hx h =>
      obtain ⟨y, y1, y2, y3⟩ := alOp_new ha
      refine still e v h' [(j, Kp S p, (S p).s.h.n, x)] hput (by rw [oo] at hk; omega) h (fun b z hb => ?_) (fun a st id z hm => ?_)
      · rw [y2] at hb
        rw [H.get_new] at hb
        split at hb
        · rename_i hbn
          refine .inr ⟨j, ?_⟩
          rw [y2] at hx
          simp only [H.get_new, if_true, Option.some.injEq] at hx
          rw [Option.some.injEq] at hb
          rw [← hb, hx, hbn]; simp
        · exact .inl hb
      · simp only [List.mem_singleton, Prod.mk.injEq] at hm
        obtain ⟨rfl, rfl, rfl, rfl⟩ := hm
        have hh : (S (p + 1)).s.h = h' := by rw [h]
        exact ⟨p, o, v, by omega, hj, ho, rfl, rfl, hk, hg, by rw [hh]; exact ha, by rw [hh]; exact hx⟩
    | mover e v h' ds hg hk hput hm h => exact moved e v h' ds hput hk h

theorem lowGo_spec {j : Nat} : ∀ (l : List Nat) (r acc : Nat), lowGo P ops bf j l r acc = acc ∨
    ∃ q m : Nat, l[q]? = some m ∧ isMv P ops m = true ∧ ahead bf j m = true ∧ lowGo P ops bf j l r acc = r + (l.take q).countP (isMv P ops) + 1
  | [], r, acc => .inl rfl
  | i :: l, r, acc => by
    simp only [lowGo]
    split
    · rename_i hm
      rcases lowGo_spec l (r + 1) (if ahead bf j i then r + 1 else acc) with h | ⟨q, m, h1, h2, h3, h4⟩
      · rw [h]
        split
        · rename_i ha
          exact .inr ⟨0, i, by simp, hm, ha, by simp⟩
        · exact .inl rfl
      · exact .inr ⟨q + 1, m, by simpa using h1, h2, h3, by rw [h4]; simp [List.countP_cons, hm]; omega⟩
    · rename_i hm
      rcases lowGo_spec l r acc with h | ⟨q, m, h1, h2, h3, h4⟩
      · exact .inl h
      · exact .inr ⟨q + 1, m, by simpa using h1, h2, h3, by rw [h4]; simp [List.countP_cons, hm]⟩

end
end Go.Proofs.YtgihdlhoaimlpaaGreatDoor.AM
