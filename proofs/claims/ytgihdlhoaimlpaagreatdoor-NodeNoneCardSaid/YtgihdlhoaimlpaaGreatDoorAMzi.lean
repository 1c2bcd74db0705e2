/- The abstract machine: all orders run: what is shown of each outcome. -/
import Derived.Test.YtgihdlhoaimlpaaGreatDoorAMzh
namespace Go.Proofs.YtgihdlhoaimlpaaGreatDoor.AM
set_option autoImplicit false
set_option linter.unusedSimpArgs false
set_option linter.unusedVariables false

section
variable {P : Program} {ρ : Ren} {w w' : World} {G nt lf : Nat} {call : CallF}

/-- The numbers only rise; and there is an outcome. -/
def Rise (s : St) (outs : Outs) : Prop := (∀ r ∈ outs, s.h.n ≤ r.2.h.n) ∧ outs ≠ []

/-- What is shown of all outcomes. -/
def RunsL (P : Program) (G nt : Nat) (c : Code) (s : St) (outs : Outs) : Prop :=
  ∀ (ρ : Ren) (a : Act) (w : World) (Q : Exit → Act → World → Prop), FRel ρ nt s a w → GOK ρ G → (∀ r ∈ outs, Fresh ρ s.h r.2.h) →
    (∀ r ∈ outs, ∀ ρ' a' w', Step ρ s.h w ρ' r.2.h w' → FRel ρ' nt r.2 a' w' → Q r.1.toExit a' w') → c.wp P Q a w

theorem rise_one {s s' : St} {x : X} (h : s.h.n ≤ s'.h.n) : Rise s [(x, s')] := ⟨fun r hr => by simp at hr; subst hr; exact h, by simp⟩

theorem rise_all {s : St} {f : X × St → Option Outs} {outs res : Outs} (h : Rise s outs) (e : allM f outs = some res) (k : ∀ r ∈ outs, ∀ a, f r = some a → Rise r.2 a) : Rise s res := by
  refine ⟨fun y hy => ?_, fun hn => ?_⟩
  · obtain ⟨x, h1, a, h2, h3⟩ := allM_of e y hy
    exact Nat.le_trans (h.1 x h1) ((k x h1 a h2).1 y h3)
  · obtain ⟨x, hx⟩ := List.exists_mem_of_ne_nil _ h.2
    obtain ⟨a, h1, h2⟩ := allM_mem e x hx
    obtain ⟨y, hy⟩ := List.exists_mem_of_ne_nil _ (k x hx a h1).2
    have := h2 y hy
    rw [hn] at this; cases this

theorem rise_then {k : St → Option Outs} (hk : ∀ s a, k s = some a → Rise s a) : ∀ (r : X × St) (a : Outs), thenL k r = some a → Rise r.2 a := fun r a e => by
  obtain ⟨x, s⟩ := r
  cases x <;> simp only [thenL] at e
  · exact hk s a e
  · simp only [Option.some.injEq] at e; subst e; exact rise_one (Nat.le_refl _)
  · simp only [Option.some.injEq] at e; subst e; exact rise_one (Nat.le_refl _)

theorem loopL_rise {body : St → Option Outs} (hb : ∀ s a, body s = some a → Rise s a) : ∀ (n : Nat) (s : St) (a : Outs), loopL body n s = some a → Rise s a
  | 0, s, a, e => by simp [loopL] at e
  | n + 1, s, a, e => by
    simp only [loopL] at e
    split at e
    · rename_i outs h1
      exact rise_all (hb _ _ h1) e fun r _ a h => rise_then (fun s a h => loopL_rise hb n s a h) r a h
    · cases e

theorem regL_rise (cn : CallN call) {ops : Array Oper} {s : St} {l : List Oper} {a : Outs} (e : regL P G nt call ops s l = some a) : Rise s a := by
  unfold regL at e
  split at e
  · cases e
  · split at e
    · split at e
      · split at e
        · rename_i outs hn
          obtain ⟨n1, n2⟩ := nextL_n hn
          refine ⟨fun y hy => ?_, fun hnil => ?_⟩
          · obtain ⟨x, h1, b, h2, h3⟩ := allM_of e y hy
            split at h2
            · split at h2
              · rename_i e1 _ s' hs
                simp only [Option.some.injEq] at h2; subst h2
                simp at h3; subst h3
                exact Nat.le_trans (n1 x h1) (stepsV_n cn hs)
              · cases h2
            · cases h2
          · obtain ⟨x, hx⟩ := List.exists_mem_of_ne_nil _ n2
            obtain ⟨b, h1, h2⟩ := allM_mem e x hx
            split at h1
            · split at h1
              · simp only [Option.some.injEq] at h1; subst h1
                have := h2 _ (by simp; rfl)
                rw [hnil] at this; cases this
              · cases h1
            · cases h1
        · cases e
      · cases e
    · cases e

theorem evL_rise (cn : CallN call) : ∀ (c : Code) (s : St) (a : Outs), evL P G nt call lf c s = some a → Rise s a
  | .region id ops draw, s, a, e => by
    simp only [evL] at e
    split at e
    · rename_i r hr
      simp only [Option.some.injEq] at e; subst e
      exact rise_one (evC_n cn _ hr)
    · split at e
      · cases e
      · exact regL_rise cn e
  | .seq x y, s, a, e => by
    simp only [evL] at e
    split at e
    · rename_i outs h1
      exact rise_all (evL_rise cn x s _ h1) e fun r _ a h => rise_then (fun s a h => evL_rise cn y s a h) r a h
    · cases e
  | .cond c x y, s, a, e => by
    simp only [evL] at e
    split at e
    · exact evL_rise cn x s a e
    · exact evL_rise cn y s a e
    · cases e
  | .block id c, s, a, e => by
    simp only [evL, Option.map_eq_some_iff] at e
    obtain ⟨outs, h1, rfl⟩ := e
    obtain ⟨n1, n2⟩ := evL_rise cn c s _ h1
    refine ⟨fun r hr => ?_, fun h => n2 (by simpa using h)⟩
    obtain ⟨y, hy, rfl⟩ := List.mem_map.1 hr
    have := n1 y hy
    obtain ⟨x, s'⟩ := y
    cases x <;> simp only [exitL] <;> (try split) <;> exact this
  | .loop c, s, a, e => by
    simp only [evL] at e
    exact loopL_rise (fun s a h => evL_rise cn c s a h) lf s a e
  | .skip, s, a, e | .label _, s, a, e | .exit _, s, a, e | .scope _, s, a, e | .ret, s, a, e | .goto _, s, a, e | .refuse _, s, a, e | .rangeFunc _ _ _ _, s, a, e => by
    simp only [evL, Option.map_eq_some_iff] at e
    obtain ⟨r, h1, rfl⟩ := e
    exact rise_one (evC_n cn _ h1)

theorem runsL_one {c : Code} {s s' : St} {x : X} (h : RunsTo P G nt c s x s') : RunsL P G nt c s [(x, s')] := fun ρ a w Q r g f k =>
  h ρ a w Q r g (f (x, s') (by simp)) (k (x, s') (by simp))

/-- The numbers on the way are nobody's. -/
theorem fresh_mid {k : St → Option Outs} {ρ : Ren} {s : St} {outs res : Outs} (e : allM (thenL k) outs = some res) (hr : ∀ s a, k s = some a → Rise s a) (f : ∀ r ∈ res, Fresh ρ s.h r.2.h) :
    ∀ r ∈ outs, Fresh ρ s.h r.2.h := fun r hrm => by
  obtain ⟨a, h1, h2⟩ := allM_mem e r hrm
  have ra := rise_then hr r a h1
  obtain ⟨y, hy⟩ := List.exists_mem_of_ne_nil _ ra.2
  exact (f y (h2 y hy)).left (ra.1 y hy)

theorem loopL_ne {body : St → Option Outs} : ∀ (n : Nat) (s : St) (res : Outs), loopL body n s = some res → ∀ r ∈ res, r.1 ≠ .normal
  | 0, s, res, e => by simp [loopL] at e
  | n + 1, s, res, e => fun r hr => by
    simp only [loopL] at e
    split at e
    · obtain ⟨⟨x, s1⟩, h1, a, h2, h3⟩ := allM_of e r hr
      cases x with
      | normal => exact loopL_ne n s1 a h2 r h3
      | ret => simp only [thenL, Option.some.injEq] at h2; subst h2; simp at h3; subst h3; simp
      | exit id => simp only [thenL, Option.some.injEq] at h2; subst h2; simp at h3; subst h3; simp
    · cases e

theorem loopL_ok {c : Code} {body : St → Option Outs} (hb : ∀ s a, body s = some a → RunsL P G nt c s a) (hr : ∀ s a, body s = some a → Rise s a) : ∀ (n : Nat) (s : St) (res : Outs), loopL body n s = some res →
    ∀ (ρ : Ren) (a : Act) (w : World) (Q : Exit → Act → World → Prop), FRel ρ nt s a w → GOK ρ G → (∀ r ∈ res, Fresh ρ s.h r.2.h) →
    (∀ r ∈ res, ∀ ρ' a' w', Step ρ s.h w ρ' r.2.h w' → FRel ρ' nt r.2 a' w' → Q r.1.toExit a' w') → Code.rounds P c Q n a w
  | 0, s, res, e => by simp [loopL] at e
  | n + 1, s, res, e => fun ρ a w Q r g f k => by
    have ne := loopL_ne _ _ _ e
    simp only [loopL] at e
    split at e
    · rename_i outs h1
      rw [rounds_succ]
      refine hb _ _ h1 ρ a w _ r g (fresh_mid e (fun s a h => loopL_rise hr n s a h) f) ?_
      intro y hy ρ1 a1 w1 st1 r1
      obtain ⟨b, h2, h3⟩ := allM_mem e y hy
      obtain ⟨x, s1⟩ := y
      cases x with
      | normal =>
        simp only [thenL] at h2
        exact loopL_ok hb hr n s1 b h2 ρ1 a1 w1 Q r1 (g.mono st1.toExt) (fun z hz => (f z (h3 z hz)).right st1) (fun z hz ρ2 a2 w2 st2 r2 => k z (h3 z hz) ρ2 a2 w2 (Step.trans (f z (h3 z hz)) st1 st2) r2)
      | ret =>
        simp only [thenL, Option.some.injEq] at h2; subst h2
        exact k (.ret, s1) (h3 _ (by simp)) ρ1 a1 w1 st1 r1
      | exit id =>
        simp only [thenL, Option.some.injEq] at h2; subst h2
        exact k (.exit id, s1) (h3 _ (by simp)) ρ1 a1 w1 st1 r1
    · cases e

theorem regL_ok (co : CallOK P G call) (cn : CallN call) {id : Nat} {ops : Array Oper} {s : St} {a0 : Outs} (e : regL P G nt call ops s ops.toList = some a0) : RunsL P G nt (.region id ops false) s a0 := fun ρ a w Q r g f k => by
  refine wp_region_list ?_
  cases hl : ops.toList with
  | nil => rw [hl] at e; simp [regL] at e
  | cons o l =>
    rw [hl] at e
    simp only [regL] at e
    split at e
    · rename_i x ho hgd
      split at e
      · rename_i p hp
        split at e
        · rename_i outs hn
          obtain ⟨y, hy, m⟩ := nextL_ok (P := P) (ty := o.type) hn r.sim (opV_rel r.env g hp)
          obtain ⟨b, h2, h3⟩ := allM_mem e y hy
          split at h2
          · rename_i e1 hput
            split at h2
            · rename_i s' hs
              simp only [Option.some.injEq] at h2; subst h2
              have hm := h3 (.normal, s') (by simp)
              have fr := f _ hm
              have gs : guardV ops s.env o = some true := by simp [guardV, hgd]
              have wt : Region.wanted o (yielded ops a.tmps) = true := guardV_ok r.env gs
              show AM.turn P ops Q o (fun a w => wpList P ops Q l a w) a w
              unfold AM.turn
              rw [wt]
              refine .inl ?_
              have mm : Moves P (execOp a.eval o) w ρ s.h y.1 y.2 := by
                unfold execOp; rw [ho]; exact m.toNext
              refine wp_moves mm fun ρ1 w1 v1 st1 hv1 => ?_
              have r1 : FRel ρ1 nt ⟨e1, y.2, s.ds⟩ (a.put o.dst v1) w1 := ⟨st1.sim, (r.env.mono st1.toExt).putD hput hv1, by rw [put_defers']; exact r.ds.mono st1.toExt⟩
              exact stepsV_ok co cn hs r1 (g.mono st1.toExt) (fr.right st1) fun ρ2 a2 w2 st2 r2 => k _ hm ρ2 a2 w2 (Step.trans fr st1 st2) r2
            · cases h2
          · cases h2
        · cases e
      · cases e
    · cases e

theorem evL_ok (co : CallOK P G call) (cn : CallN call) (dr : DrawsOK P G nt call) : ∀ (c : Code) (s : St) (outs : Outs), evL P G nt call lf c s = some outs → RunsL P G nt c s outs
  | .region id ops draw, s, outs, e => by
    simp only [evL] at e
    split at e
    · rename_i r hr
      simp only [Option.some.injEq] at e; subst e
      exact runsL_one (evC_ok co cn dr _ hr)
    · split at e
      · cases e
      · rename_i hd
        have : draw = false := by simpa using hd
        subst this
        exact regL_ok co cn e
  | .seq x y, s, outs, e => fun ρ a w Q r g f k => by
    simp only [evL] at e
    split at e
    · rename_i o1 h1
      refine wp_seq (evL_ok co cn dr x s o1 h1 ρ a w _ r g (fresh_mid e (fun s a h => evL_rise cn y s a h) f) ?_)
      intro z hz ρ1 a1 w1 st1 r1
      obtain ⟨b, h2, h3⟩ := allM_mem e z hz
      obtain ⟨x', s1⟩ := z
      cases x' with
      | normal =>
        simp only [thenL] at h2
        exact evL_ok co cn dr y s1 b h2 ρ1 a1 w1 Q r1 (g.mono st1.toExt) (fun z hz => (f z (h3 z hz)).right st1) (fun z hz ρ2 a2 w2 st2 r2 => k z (h3 z hz) ρ2 a2 w2 (Step.trans (f z (h3 z hz)) st1 st2) r2)
      | ret =>
        simp only [thenL, Option.some.injEq] at h2; subst h2
        exact k (.ret, s1) (h3 _ (by simp)) ρ1 a1 w1 st1 r1
      | exit id =>
        simp only [thenL, Option.some.injEq] at h2; subst h2
        exact k (.exit id, s1) (h3 _ (by simp)) ρ1 a1 w1 st1 r1
    · cases e
  | .cond c x y, s, outs, e => fun ρ a w Q r g f k => by
    simp only [evL] at e
    split at e
    · rename_i hc
      exact wp_cond_true (inv_bool (opV_rel r.env g hc)) (evL_ok co cn dr x s outs e ρ a w Q r g f k)
    · rename_i hc
      exact wp_cond_false (inv_bool (opV_rel r.env g hc)) (evL_ok co cn dr y s outs e ρ a w Q r g f k)
    · cases e
  | .block id c, s, outs, e => fun ρ a w Q r g f k => by
    simp only [evL, Option.map_eq_some_iff] at e
    obtain ⟨o1, h1, rfl⟩ := e
    have hx : ∀ y : X × St, (exitL id y).2 = y.2 := fun y => by
      obtain ⟨x, s'⟩ := y
      cases x <;> simp only [exitL] <;> (try split) <;> rfl
    refine wp_block (evL_ok co cn dr c s o1 h1 ρ a w _ r g (fun y hy => by have := f _ (List.mem_map.2 ⟨y, hy, rfl⟩); rwa [hx] at this) ?_)
    intro y hy ρ1 a1 w1 st1 r1
    have := k _ (List.mem_map.2 ⟨y, hy, rfl⟩) ρ1 a1 w1 (by rw [hx]; exact st1) (by rw [hx]; exact r1)
    obtain ⟨x, s'⟩ := y
    cases x with
    | normal => exact this
    | ret => exact this
    | exit i =>
      simp only [X.toExit, Exit.inBlock]
      simp only [exitL] at this
      split
      · rename_i hi; simpa [hi, X.toExit] using this
      · rename_i hi; simpa [hi, X.toExit] using this
  | .loop c, s, outs, e => fun ρ a w Q r g f k => by
    simp only [evL] at e
    exact wp_loop_rounds lf (loopL_ok (fun s a h => evL_ok co cn dr c s a h) (fun s a h => evL_rise cn c s a h) lf s outs e ρ a w Q r g f k)
  | .skip, s, a, e | .label _, s, a, e | .exit _, s, a, e | .scope _, s, a, e | .ret, s, a, e | .goto _, s, a, e | .refuse _, s, a, e | .rangeFunc _ _ _ _, s, a, e => by
    simp only [evL, Option.map_eq_some_iff] at e
    obtain ⟨r, h1, rfl⟩ := e
    exact runsL_one (evC_ok co cn dr _ h1)

end
end Go.Proofs.YtgihdlhoaimlpaaGreatDoor.AM
