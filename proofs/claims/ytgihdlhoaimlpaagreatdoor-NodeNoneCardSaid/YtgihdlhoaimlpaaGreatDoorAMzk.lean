/- The abstract machine: a function that ranges over an iterator that gives nothing (slices.AppendSeq over no keys). -/
import Derived.Test.YtgihdlhoaimlpaaGreatDoorAMzj
import Derived.RangeFuncLeaves
namespace Go.Proofs.YtgihdlhoaimlpaaGreatDoor.AM
set_option autoImplicit false
set_option linter.unusedSimpArgs false
set_option linter.unusedVariables false

section
variable {P : Program} {ρ ρ' : Ren} {h h' : H} {w w' w'' : World} {G nt lf f : Nat} {call : CallF}

theorem Sim.grow (s : Sim ρ h w) (hk : ∀ k, k < w.heap.size → w'.heap[k]? = w.heap[k]?) : Sim ρ h w' :=
  ⟨fun b x hb => by
    obtain ⟨W, h1, h2⟩ := s.live b x hb
    exact ⟨W, h1, h2.mono (Ext.refl _) (hk _ (blk_lt h2))⟩, s.inj⟩

/-- Objects are made that nobody speaks of. -/
theorem Step.grow (s : Sim ρ h w) (hs : w.heap.size ≤ w'.heap.size) (ht : w'.tape = w.tape) (ho : w'.os = w.os) (hp : w'.output = w.output) (hk : ∀ k, k < w.heap.size → w'.heap[k]? = w.heap[k]?) : Step ρ h w ρ h w' where
  sim := s.grow hk
  ext := fun _ _ h => .inl h
  new := fun _ h h' => absurd h h'
  live := fun _ h => .inl h
  nn := Nat.le_refl _
  size := hs
  tape := ht
  os := ho
  output := hp
  keep := fun k h _ => hk k h
  mu := fun k h => .inr h
  liv := fun k h => .inr h

/-- An object made since is written, of which nobody speaks. -/
theorem Step.own (st : Step ρ h w ρ' h' w') {k : Nat} (hk0 : w.heap.size ≤ k) (hl : ¬ Liv ρ' h' k) (hs : w''.heap.size = w'.heap.size) (ht : w''.tape = w'.tape) (ho : w''.os = w'.os) (hp : w''.output = w'.output)
    (hk : ∀ j, j ≠ k → w''.heap[j]? = w'.heap[j]?) : Step ρ h w ρ' h' w'' :=
  { st with
    sim := ⟨fun b x hb => by
      obtain ⟨W, h1, h2⟩ := st.sim.live b x hb
      exact ⟨W, h1, h2.mono (Ext.refl _) (hk _ fun e => hl ⟨b, x, W, hb, h1, e⟩)⟩, st.sim.inj⟩
    size := by rw [hs]; exact st.size
    tape := ht.trans st.tape
    os := ho.trans st.os
    output := hp.trans st.output
    keep := fun j hj hm => by rw [hk j (by omega)]; exact st.keep j hj hm }

/-- Operations that only read. -/
def readsV (P : Program) (G nt : Nat) (h : H) : List Oper → T V → Option (T V)
  | [], env => some env
  | o :: l, env => match o.guard with
    | none => (match rdAll P G h env o with
      | some v => (match putD nt env o.dst v with
        | some e => readsV P G nt h l e
        | none => none)
      | none => none)
    | some _ => none

theorem readsV_ok {ops : Array Oper} {Q : Exit → Act → World → Prop} : ∀ {l : List Oper} {env env' : T V} {a : Act}, readsV P G nt h l env = some env' → Sim ρ h w → ERel ρ nt env a.tmps → GOK ρ G →
    (∀ a' : Act, ERel ρ nt env' a'.tmps → a'.defers = a.defers → Q .normal a' w) → wpList P ops Q l a w
  | [], env, env', a, e, s, r, g, k => by
    simp [readsV] at e; subst e
    exact k a r rfl
  | o :: l, env, env', a, e, s, r, g, k => by
    simp only [readsV] at e
    split at e
    · rename_i hgd
      split at e
      · rename_i v hv
        split at e
        · rename_i e1 hput
          have gs : guardV ops env o = some true := by simp [guardV, hgd]
          have wt : Region.wanted o (yielded ops a.tmps) = true := guardV_ok r gs
          show AM.turn P ops Q o (fun a w => wpList P ops Q l a w) a w
          unfold AM.turn
          rw [wt]
          refine .inl (wp_gives (rdAll_ok s r g hv) fun v' hv' => ?_)
          exact readsV_ok e s (r.putD hput hv') g fun a' h1 h2 => k a' h1 (by rw [h2, put_defers'])
        · cases e
      · cases e
    · cases e

def hasB (P : Program) (g : Nat) : Bool := match P.funcs[g]? with
  | some fg => fg.body.isSome
  | none => false

theorem hasB_ok {g : Nat} (e : hasB P g = true) : ∃ fg cg, P.funcs[g]? = some fg ∧ fg.body = some cg := by
  unfold hasB at e
  split at e
  · rename_i fg hfg
    obtain ⟨cg, hcg⟩ := Option.isSome_iff_exists.1 e
    exact ⟨fg, cg, hfg, hcg⟩
  · cases e

/-- What is run of a function that ranges over an iterator: ahead of it, the iterator, which must not ask for more, what is read behind it. -/
def seqX (P : Program) (G : Nat) (call : CallF) (lf f : Nat) (args : List V) (h : H) : Option (V × H) := match P.funcs[f]? with
  | some fn => (match fn.body with
    | some (.seq c0 (.seq (.seq c1 (.block _ (.rangeFunc x _ _ _))) (.seq (.region _ ops false) .ret))) => if args.length ≤ fn.ntmps then (match evC P G fn.ntmps call lf c0 ⟨envOf args 0 .nil, h, []⟩ with
        | some (.normal, s0) => (match evC P G fn.ntmps call lf c1 s0 with
          | some (.normal, s1) => (match opV G s1.env x, s1.ds with
            | some (.fn g first cap), [] => if hasB P g = true then (match call g (first ++ [.any] ++ cap) s1.h with
                | some (_, h2) => (match readsV P G fn.ntmps h2 ops.toList s1.env with
                  | some e3 => (resultsV P h2 e3 fn).map fun v => (v, h2)
                  | none => none)
                | none => none) else none
            | _, _ => none)
          | _ => none)
        | _ => none) else none
    | _ => none)
  | none => none

theorem seqX_n (cn : CallN call) : AnsN (seqX P G call lf f) := fun args h v h' e => by
  unfold seqX at e
  split at e
  · split at e
    · split at e
      · split at e
        · rename_i s0 e0
          split at e
          · rename_i s1 e1
            split at e
            · split at e
              · split at e
                · rename_i u h2 hcall
                  split at e
                  · simp only [Option.map_eq_some_iff, Prod.mk.injEq] at e
                    obtain ⟨_, _, _, rfl⟩ := e
                    exact Nat.le_trans (evC_n cn _ e0) (Nat.le_trans (evC_n cn _ e1) (cn _ _ _ _ _ hcall))
                  · cases e
                · cases e
              · cases e
            · cases e
          · cases e
        · cases e
      · cases e
    · cases e
  · cases e

theorem seqX_ok (np : Plain P) (co : CallOK P G call) (cn : CallN call) (dr : ∀ nt, DrawsOK P G nt call) : AnsOK P G f (seqX P G call lf f) := by
  intro args h v h' e ρ w args' s g fr r
  unfold seqX at e
  split at e
  · rename_i fn hf
    split at e
    · rename_i c0 c1 bid x ps ia ib rid ops hc
      split at e
      · rename_i hl
        split at e
        · rename_i s0 e0
          split at e
          · rename_i s1 e1
            split at e
            · rename_i gf first cap hx hds
              split at e
              · rename_i hbody
                split at e
                · rename_i u h2 hcall
                  split at e
                  · rename_i e3 hrd
                    simp only [Option.map_eq_some_iff, Prod.mk.injEq] at e
                    obtain ⟨v0, hres, rfl, rfl⟩ := e
                    have n0 := evC_n cn _ e0
                    have n1 := evC_n cn _ e1
                    have n2 := cn _ _ _ _ _ hcall
                    have f0 : Fresh ρ h s0.h := fr.left (Nat.le_trans n1 n2)
                    have f1 : Fresh ρ h s1.h := fr.left n2
                    have enter := enter_rel (fn := fn) (w := w) s r hl
                    refine callsTo_of_calls np hf hc (callsIn_wide.1 (callsIn_of_wp_marks (n := 1) hf hc trivial ?_))
                    refine wpIn_wide.2 ?_
                    refine wp_seq (evC_ok co cn (dr _) c0 e0 ρ _ w _ enter g f0 fun ρ0 a0 w0 st0 r0 => ?_)
                    refine wp_seq (wp_seq (evC_ok co cn (dr _) c1 e1 ρ0 a0 w0 _ r0 (g.mono st0.toExt) (Fresh.right f1 st0) fun ρ1 a1 w1 st1 r1 => ?_))
                    have st01 := Step.trans f1 st0 st1
                    have g1 := g.mono st01.toExt
                    obtain ⟨x', y', q1, q2, q3⟩ := inv_fn (opV_rel r1.env g1 hx)
                    refine wp_block ((wpIn_wide (n := 1)).1 (wpIn_rangeFunc fun fid _ => ?_))
                    have hd1 : a1.defers = [] := by
                      have := r1.ds
                      rw [hds] at this
                      cases hd : a1.defers with
                      | nil => rfl
                      | cons p q => rw [hd] at this; simp [DRel] at this
                    let rec0 : Loop := { state := .ready, pending := none, fn := fid, tmps := a1.tmps, params := ps, assign := ia, body := ib, defers := w1.heap.size }
                    let wa := (w1.alloc (.deferred (some []))).alloc (.loop rec0)
                    have hsz : wa.heap.size = w1.heap.size + 2 := by
                      show ((w1.alloc (.deferred (some []))).heap.push _).size = _
                      rw [Array.size_push]
                      show (w1.heap.push _).size + 1 = _
                      rw [Array.size_push]
                    have hold : ∀ k, k < w1.heap.size → wa.heap[k]? = w1.heap[k]? := fun k hk => by
                      have e1 : (w1.alloc (.deferred (some []))).heap[k]? = w1.heap[k]? := by
                        show (w1.heap.push _)[k]? = _
                        rw [Array.getElem?_push, if_neg (by omega)]
                      rw [← e1]
                      show ((w1.alloc (.deferred (some []))).heap.push _)[k]? = _
                      have e2 : (w1.alloc (.deferred (some []))).heap.size = w1.heap.size + 1 := by show (w1.heap.push _).size = _; simp
                      rw [Array.getElem?_push, if_neg (by omega)]
                    have stg : Step ρ1 s1.h w1 ρ1 s1.h wa := Step.grow r1.sim (by omega) rfl rfl rfl hold
                    refine ⟨w1.heap.size + 1, [{ target := .collected w1.heap.size, args := #[] }], wa, { target := .fn (.func gf) y', args := x' ++ #[.func (.yield (w1.heap.size + 1)) #[] #[]] }, wa, gf, x' ++ #[.func (.yield (w1.heap.size + 1)) #[] #[]] ++ y', wa, ?_, ?_, (fun _ _ => trivial), ?_, (fun h => by cases h), ?_⟩
                    · have e2 : (w1.alloc (.deferred (some []))).heap.size = w1.heap.size + 1 := by show (w1.heap.push _).size = _; simp
                      show Result.ok ((w1.alloc (.deferred (some []))).heap.size, [({ target := .collected w1.heap.size, args := #[] } : Deferred)]) wa = _
                      rw [e2]
                    · have hy : ∀ v, a1.eval (.const v) = v := fun _ => rfl
                      simp [resolve, q1, Deferred.ofValue, hy]
                    · simp only [invoke]
                      obtain ⟨fg, cg, hfg, hcg⟩ := hasB_ok hbody
                      exact run_callFunc np hfg hcg _
                    · refine callsIn_wide.2 ?_
                      obtain ⟨fg, cg, hfg, hcg⟩ := hasB_ok hbody
                      have ca := calls_of_callsTo np hfg hcg (co gf _ s1.h _ _ hcall ρ1 wa (x' ++ #[.func (.yield (w1.heap.size + 1)) #[] #[]] ++ y') stg.sim g1 (fr.right (Step.trans f1 st0 st1)) ?_)
                      · refine ca.mono fun en w2 hen => ?_
                        obtain ⟨v', rfl, ρ2, st2, _⟩ := hen
                        have nmut : ∀ k, w1.heap.size ≤ k → ¬ Mut ρ1 s1.h k := fun k hk ⟨b, y, W, b1, b2, b3, b4⟩ => by
                          obtain ⟨U, c1, c2⟩ := r1.sim.live b y b1
                          rw [b3] at c1; cases c1
                          have := blk_lt c2
                          omega
                        have e2 : (w1.alloc (.deferred (some []))).heap.size = w1.heap.size + 1 := by show (w1.heap.push _).size = _; simp
                        have hrec : w2.heap[w1.heap.size + 1]? = some (.loop rec0) := by
                          have hkp := st2.keep (w1.heap.size + 1) (by omega) (nmut _ (by omega))
                          rw [hkp]
                          have e3 := heap_alloc_at (w1.alloc (.deferred (some []))) (.loop rec0)
                          rw [e2] at e3
                          exact e3
                        have hmark : w2.heap[w1.heap.size]? = some (.deferred (some [])) := by
                          have hkp := st2.keep w1.heap.size (by omega) (nmut _ (by omega))
                          rw [hkp]
                          have e3 := heap_alloc_at w1 (.deferred (some []))
                          have e4 : wa.heap[w1.heap.size]? = (w1.alloc (.deferred (some []))).heap[w1.heap.size]? := by
                            show ((w1.alloc (.deferred (some []))).heap.push _)[w1.heap.size]? = _
                            rw [Array.getElem?_push, if_neg (by omega)]
                          rw [e4, e3]
                        have nliv : ∀ k, w1.heap.size ≤ k → k < wa.heap.size → ¬ Liv ρ2 h2 k := fun k k1 k2 hL => by
                          rcases st2.liv k hL with h3 | ⟨b, y, W, b1, b3, b4⟩
                          · omega
                          · obtain ⟨U, c1, c2⟩ := r1.sim.live b y b1
                            rw [b3] at c1; cases c1
                            have := blk_lt c2
                            omega
                        have hl2 : w1.heap.size + 1 < w2.heap.size := by have := st2.size; omega
                        -- the record is shut
                        let w3 : World := { w2 with heap := w2.heap.setIfInBounds (w1.heap.size + 1) (.loop { rec0 with state := .exhausted }) }
                        have h3 : ∀ j, j ≠ w1.heap.size + 1 → w3.heap[j]? = w2.heap[j]? := fun j hj => by
                          show (w2.heap.setIfInBounds _ _)[j]? = _
                          rw [Array.getElem?_setIfInBounds_ne (Ne.symm hj)]
                        have h3s : w3.heap.size = w2.heap.size := by show (w2.heap.setIfInBounds _ _).size = _; simp
                        -- the mark is shut
                        let w4 : World := { w3 with heap := w3.heap.setIfInBounds w1.heap.size (.deferred none) }
                        have h4 : ∀ j, j ≠ w1.heap.size → w4.heap[j]? = w3.heap[j]? := fun j hj => by
                          show (w3.heap.setIfInBounds _ _)[j]? = _
                          rw [Array.getElem?_setIfInBounds_ne (Ne.symm hj)]
                        have h4s : w4.heap.size = w3.heap.size := by show (w3.heap.setIfInBounds _ _).size = _; simp
                        have stA : Step ρ h w ρ2 h2 w2 := Step.trans fr (Step.trans f1 st0 st1) (Step.trans (Fresh.right fr (Step.trans f1 st0 st1)) stg st2)
                        have hw1 : w.heap.size ≤ w1.heap.size := st01.size
                        have stB : Step ρ h w ρ2 h2 w3 := Step.own stA (k := w1.heap.size + 1) (by omega) (nliv _ (by omega) (by omega)) h3s rfl rfl rfl h3
                        have stC : Step ρ h w ρ2 h2 w4 := Step.own stB (k := w1.heap.size) (by omega) (nliv _ (by omega) (by omega)) h4s rfl rfl rfl h4
                        refine ⟨none, w3, ?_, ?_⟩
                        · have hgl : (Instr.getLoop (w1.heap.size + 1)).run P w2 = .ok rec0 w2 := by
                            simp only [Instr.getLoop, getObj, Sem.run_bind, Sem.run, hrec, Result.andThen_ok]
                            rfl
                          have hst : (rec0.state == LoopState.busy) = false := rfl
                          simp only [Instr.endLoop, Sem.run_bind, hgl, Result.andThen_ok, hst]
                          simp only [Bool.false_eq_true, if_false, Sem.run_pure, Result.andThen_ok, setObj, Sem.run_bind, Sem.run, hrec]
                          rfl
                        · show (Code.seq (.region rid ops false) .ret).wp P _ { tmps := a1.tmps, defers := [{ target := .collected w1.heap.size, args := #[] }] ++ a1.defers } w3
                          refine wp_seq (wp_region_list (readsV_ok (ρ := ρ2) (a := { tmps := a1.tmps, defers := [{ target := .collected w1.heap.size, args := #[] }] ++ a1.defers }) hrd stB.sim (r1.env.mono st2.toExt) (g1.mono st2.toExt) fun a' hE hdef => ?_))
                          refine wp_ret ?_
                          obtain ⟨u', k1, k2⟩ := resultsV_ok stC.sim hE hres
                          show LeavesInM _ _ P fn a'.tmps _ a'.defers .returning w3
                          rw [hdef, hd1]
                          refine ⟨by simp, .inl ⟨w1.heap.size, w4, rfl, ?_, ?_⟩⟩
                          · have h5 : w3.heap[w1.heap.size]? = some (.deferred (some [])) := by rw [h3 _ (by omega)]; exact hmark
                            simp only [Instr.takeDeferred, getObj, Sem.run_bind, Sem.run, h5, Result.andThen_ok, setObj]
                            rfl
                          · exact ⟨u', k1, u', rfl, ρ2, stC, k2⟩
                      · have h0 : LRel ρ1 [V.any] [Value.func (.yield (w1.heap.size + 1)) #[] #[]] := by simp [LRel, VRel, Value.oneCell']
                        simpa using (q2.append h0).append q3
                  · cases e
                · cases e
              · cases e
            · cases e
          · cases e
        · cases e
      · cases e
    · cases e
  · cases e

end
end Go.Proofs.YtgihdlhoaimlpaaGreatDoor.AM
