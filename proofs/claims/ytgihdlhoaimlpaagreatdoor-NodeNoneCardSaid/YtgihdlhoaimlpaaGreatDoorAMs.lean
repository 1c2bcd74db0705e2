/- The abstract machine: one operation of a frame. -/
import Derived.Test.YtgihdlhoaimlpaaGreatDoorAMra
namespace Go.Proofs.YtgihdlhoaimlpaaGreatDoor.AM
set_option autoImplicit false
set_option linter.unusedSimpArgs false
set_option linter.unusedVariables false

section
variable {P : Program} {ρ : Ren} {w : World} {nt G : Nat} {call : CallF} {ops : Array Oper} {a : Act} {o : Oper} {K : Act → World → Prop} {Q : Exit → Act → World → Prop}

theorem guardV_ok {env : T V} {b : Bool} (r : ERel ρ nt env a.tmps) (e : guardV ops env o = some b) : Region.wanted o (yielded ops a.tmps) = b := by
  unfold guardV at e
  unfold Region.wanted
  split at e
  · rename_i hg; rw [hg]; simpa using e
  · rename_i j want hg
    rw [hg]
    split at e
    · rename_i d hd
      cases hv : env.get d with
      | none => rw [hv] at e; cases e
      | some v =>
        obtain ⟨v', h1, h2⟩ := r.2 d v hv
        rw [hv] at e
        have hy : yielded ops a.tmps j = match v' with | .bool b => some b | _ => none := by
          unfold yielded
          rw [hd]
          simp only [Option.bind_some, h1]
          cases v' <;> rfl
        simp only [hy]
        split at e
        · rename_i b0 heq
          simp only [Option.some.injEq] at heq; subst heq
          obtain rfl := inv_bool h2
          simp only [Option.some.injEq] at e; subst e
          cases b0 <;> cases want <;> rfl
        · rename_i heq
          simp only [Option.some.injEq] at heq; subst heq
          simp only [Option.some.injEq] at e; subst e
          cases v' <;> first | rfl | (simp [VRel] at h2; done)
        · cases e
    · cases e

theorem wp_gives {v : V} (h : Gives P (execOp a.eval o) w ρ v) (k : ∀ v', VRel ρ v v' → K (a.put o.dst v') w) : o.wp P a w K Q := by
  obtain ⟨v', h1, h2⟩ := h
  unfold Oper.wp
  rw [h1]
  exact k v' h2

theorem wp_moves {h h' : H} {v : V} (m : Moves P (execOp a.eval o) w ρ h v h') (k : ∀ ρ' w' v', Step ρ h w ρ' h' w' → VRel ρ' v v' → K (a.put o.dst v') w') : o.wp P a w K Q := by
  obtain ⟨ρ', w', st, hm⟩ := m
  unfold Oper.wp
  rcases hm with ⟨v', h1, h2⟩ | ⟨h1, rfl⟩
  · rw [h1]; exact k ρ' w' v' st h2
  · rw [h1]; exact k ρ' w' undef st (by simp [VRel, LRel, undef])

theorem put_defers (a : Act) : ({ a with defers := a.defers } : Act) = a := rfl

theorem mvOp_ok (co : CallOK P G call) {s : St} {v : V} {h' : H} {ds' : List (Nat × List V)} (e : mvOp P G call s o = some (v, h', ds')) (r : FRel ρ nt s a w) (g : GOK ρ G) (f : Fresh ρ s.h h')
    (k : ∀ ρ' w' v' (D : List Deferred), Step ρ s.h w ρ' h' w' → VRel ρ' v v' → DRel ρ' ds' D → K ({ a with defers := D }.put o.dst v') w') : o.wp P a w K Q := by
  have keep : ∀ {v : V} {h' : H}, Moves P (execOp a.eval o) w ρ s.h v h' → (∀ ρ' w' v' (D : List Deferred), Step ρ s.h w ρ' h' w' → VRel ρ' v v' → DRel ρ' s.ds D → K ({ a with defers := D }.put o.dst v') w') → o.wp P a w K Q :=
    fun m k => wp_moves m fun ρ' w' v' st vr => k ρ' w' v' a.defers st vr (r.ds.mono st.toExt)
  unfold mvOp at e
  split at e
  · rename_i t x y ho
    split at e
    · rename_i p q hp hq
      simp only [Option.map_eq_some_iff] at e
      obtain ⟨h1, e, e2⟩ := e
      simp only [Prod.mk.injEq] at e2; obtain ⟨rfl, rfl, rfl⟩ := e2
      refine keep ?_ k
      unfold execOp; rw [ho]
      exact (storeV_ok e r.sim (opV_rel r.env g hp) (opV_rel r.env g hq)).toNext
    · cases e
  · rename_i t m x y ho
    split at e
    · rename_i p q z hp hq hz
      simp only [Option.map_eq_some_iff] at e
      obtain ⟨h1, e, e2⟩ := e
      simp only [Prod.mk.injEq] at e2; obtain ⟨rfl, rfl, rfl⟩ := e2
      refine keep ?_ k
      unfold execOp; rw [ho]
      exact (updV_ok e r.sim (opV_rel r.env g hp) (opV_rel r.env g hq) (opV_rel r.env g hz)).toNext
    · cases e
  · rename_i t m x y ho
    split at e
    · rename_i p q z hp hq hz
      simp only [Option.map_eq_some_iff] at e
      obtain ⟨h1, e, e2⟩ := e
      simp only [Prod.mk.injEq] at e2; obtain ⟨rfl, rfl, rfl⟩ := e2
      refine keep ?_ k
      unfold execOp; rw [ho]
      exact (updV_ok e r.sim (opV_rel r.env g hp) (opV_rel r.env g hq) (opV_rel r.env g hz)).toNext
    · cases e
  · rename_i t x ho
    split at e
    · rename_i p hp
      simp only [Option.map_eq_some_iff] at e
      obtain ⟨⟨v1, h1⟩, e, e2⟩ := e
      simp only [Prod.mk.injEq] at e2; obtain ⟨rfl, rfl, rfl⟩ := e2
      refine keep ?_ k
      unfold execOp; rw [ho]
      exact (rangeV_ok e r.sim f (opV_rel r.env g hp)).toNext
    · cases e
  · rename_i x str ho
    split at e
    · rename_i p hp
      simp only [Option.map_eq_some_iff] at e
      obtain ⟨⟨v1, h1⟩, e, e2⟩ := e
      simp only [Prod.mk.injEq] at e2; obtain ⟨rfl, rfl, rfl⟩ := e2
      refine keep ?_ k
      unfold execOp; rw [ho]
      exact (nextV_ok e r.sim (opV_rel r.env g hp)).toNext
    · cases e
  · rename_i t d x ho
    split at e
    · rename_i p hp
      simp only [Option.map_eq_some_iff] at e
      obtain ⟨v1, e, e2⟩ := e
      simp only [Prod.mk.injEq] at e2; obtain ⟨rfl, rfl, rfl⟩ := e2
      refine keep ?_ k
      unfold execOp; rw [ho]
      exact (markV_ok e r.sim (opV_rel r.env g hp)).toNext
    · cases e
  · rename_i c ho
    split at e
    · rename_i x f0 args hx hc
      simp only [Option.some.injEq, Prod.mk.injEq] at e; obtain ⟨rfl, rfl, rfl⟩ := e
      obtain ⟨args', h1, h2, h3⟩ := callee_ok (ty := o.type) r.env g hc
      obtain ⟨d, h4, cap, h5, h6⟩ := h3 x hx w
      unfold Oper.wp execOp
      rw [ho]
      simp only [Sem.run_bind, h4, Result.andThen_ok, Sem.run_pure, Oper.upon]
      exact k ρ w undef (d :: a.defers) (Step.refl r.sim) (by simp [VRel, LRel, undef]) ⟨⟨cap, h5, by rw [h6]; exact h1⟩, r.ds⟩
    · cases e
  · rename_i c ho
    have other : (∀ b, c.callee ≠ .builtin b) → (match calleeV P G s.env c with
      | some (f, args) => (call f args s.h).map fun r => (r.1, r.2, s.ds)
      | none => none) = some (v, h', ds') → o.wp P a w K Q := fun hnb e' => by
      clear e
      split at e'
      · rename_i f0 args hc
        simp only [Option.map_eq_some_iff] at e'
        obtain ⟨⟨v1, h1⟩, e', e2⟩ := e'
        simp only [Prod.mk.injEq] at e2; obtain ⟨rfl, rfl, rfl⟩ := e2
        obtain ⟨args', l1, l2, l3⟩ := callee_ok (ty := o.type) r.env g hc
        unfold Oper.wp execOp
        rw [ho, l2 w]
        refine co f0 args s.h _ _ e' ρ w args' r.sim g f l1 o a K Q fun v' w' ⟨ρ', st, vr⟩ => ?_
        exact k ρ' w' v' a.defers st vr (r.ds.mono st.toExt)
      · cases e'
    have args1 : ∀ {x : Operand}, c.args.toList = [x] → c.args.map a.eval = #[a.eval x] := fun h => by apply Array.ext'; simp [Array.toList_map, h]
    have args2 : ∀ {x y : Operand}, c.args.toList = [x, y] → c.args.map a.eval = #[a.eval x, a.eval y] := fun h => by apply Array.ext'; simp [Array.toList_map, h]
    have tys1 : ∀ {x : Nat}, c.argTypes.toList = [x] → c.argTypes = #[x] := fun h => by apply Array.ext'; simp [h]
    have tys2 : ∀ {x y : Nat}, c.argTypes.toList = [x, y] → c.argTypes = #[x, y] := fun h => by apply Array.ext'; simp [h]
    split at e
    · rename_i b hc
      simp only [Option.map_eq_some_iff] at e
      obtain ⟨⟨v1, h1⟩, e, e2⟩ := e
      simp only [Prod.mk.injEq] at e2; obtain ⟨rfl, rfl, rfl⟩ := e2
      refine keep ?_ k
      unfold bltV at e
      split at e
      · rename_i x y t0 t1 ha ht
        split at e
        · rename_i p q hp hq
          have hp' := opV_rel r.env g hp
          have hq' := opV_rel r.env g hq
          have go : ∀ (s2 : Sem Value), (∀ w : World, (execOp a.eval o).run P w = (do pure (.value (← s2)) : Sem Next).run P w) → MovesV P s2 w ρ s.h v1 h1 → Moves P (execOp a.eval o) w ρ s.h v1 h1 := fun s2 hs ⟨ρ', w', v', m1, m2, m3⟩ =>
            ⟨ρ', w', m1, .inl ⟨v', by rw [hs]; simp [m2], m3⟩⟩
          unfold blt2 at e
          split at e
          · refine go _ (fun w => ?_) (appendV_ok (ty := o.type) e r.sim f hp' hq')
            unfold execOp; rw [ho]
            simp [resolve, hc, invoke, builtin, args2 ha, tys2 ht]
          · simp only [Option.map_eq_some_iff, Prod.mk.injEq] at e
            obtain ⟨h2, e, rfl, rfl⟩ := e
            refine go _ (fun w => ?_) (delV_ok (ty := o.type) (t1 := t1) e r.sim hp' hq')
            unfold execOp; rw [ho]
            simp [resolve, hc, invoke, builtin, args2 ha, tys2 ht]
          · refine go _ (fun w => ?_) (copyV_ok (ty := o.type) (t1 := t1) e r.sim hp' hq')
            unfold execOp; rw [ho]
            simp [resolve, hc, invoke, builtin, args2 ha, tys2 ht]
          · refine go _ (fun w => ?_) (unStrV_ok (ty := o.type) (t1 := t1) e r.sim hp' hq')
            unfold execOp; rw [ho]
            simp [resolve, hc, invoke, builtin, args2 ha, tys2 ht]
          · cases e
        · cases e
      · rename_i x t0 ha ht
        split at e
        · rename_i p hp
          have hp' := opV_rel r.env g hp
          unfold blt1 at e
          split at e
          · simp only [Option.map_eq_some_iff, Prod.mk.injEq] at e
            obtain ⟨h2, e, rfl, rfl⟩ := e
            obtain ⟨ρ', w', v', m1, m2, m3⟩ := clearV_ok (ty := o.type) e r.sim hp'
            refine ⟨ρ', w', m1, .inl ⟨v', ?_, m3⟩⟩
            unfold execOp; rw [ho]
            simp [resolve, hc, invoke, builtin, args1 ha, tys1 ht, m2]
          · simp only [Option.map_eq_some_iff, Prod.mk.injEq] at e
            obtain ⟨v2, e, rfl, rfl⟩ := e
            obtain ⟨v', m2, m3⟩ := slDataV_ok (P := P) (w := w) (t0 := t0) (ty := o.type) e hp'
            refine ⟨ρ, w, Step.refl r.sim, .inl ⟨v', ?_, m3⟩⟩
            unfold execOp; rw [ho]
            simp [resolve, hc, invoke, builtin, args1 ha, tys1 ht, m2]
          · cases e
        · cases e
      · cases e
    · rename_i hnb
      exact other (fun b hb => hnb b hb) e
  · cases e

end
end Go.Proofs.YtgihdlhoaimlpaaGreatDoor.AM
