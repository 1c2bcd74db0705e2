/- The abstract machine: a step, a list of steps, a body, a call. -/
import Derived.Test.YtgihdlhoaimlpaaGreatDoorAMt
import Derived.Scope
import Derived.LoopN
import Derived.Defers
import Derived.Orders
namespace Go.Proofs.YtgihdlhoaimlpaaGreatDoor.AM
set_option autoImplicit false
set_option linter.unusedSimpArgs false
set_option linter.unusedVariables false

section
variable {P : Program} {ρ : Ren} {w : World} {nt G lf : Nat} {call : CallF} {ops : Array Oper} {a : Act}

theorem ERel.putD {env env' : T V} (r : ERel ρ nt env a.tmps) {dst : Option Nat} {v : V} {v' : Value} (e : putD nt env dst v = some env') (hv : VRel ρ v v') : ERel ρ nt env' (a.put dst v').tmps := by
  unfold AM.putD at e
  split at e
  · simp only [Option.some.injEq] at e; subst e; exact r
  · rename_i d
    cases hb : Nat.blt d nt with
    | false => rw [hb] at e; cases e
    | true =>
      rw [hb] at e
      simp only [cond_true, Option.some.injEq] at e; subst e
      exact r.put (Nat.le_of_ble_eq_true hb) hv

theorem put_defers' {dst : Option Nat} {v : Value} : (a.put dst v).defers = a.defers := by cases dst <;> rfl

theorem undef_rel : VRel ρ (.tup []) undef := by simp [VRel, LRel, undef]

/-- What is said of one operation's turn. -/
def turn (P : Program) (ops : Array Oper) (Q : Exit → Act → World → Prop) (o : Oper) (K : Act → World → Prop) (a : Act) (w : World) : Prop :=
  if Region.wanted o (yielded ops a.tmps) then o.wp P a w K Q ∨ (o.asks P a w ∧ LetsOut Q) else K (a.put o.dst undef) w

theorem stepV_ok (co : CallOK P G call) {s s' : St} {o : Oper} {K : Act → World → Prop} {Q : Exit → Act → World → Prop} (e : stepV P G nt call ops s o = some s')
    (r : FRel ρ nt s a w) (g : GOK ρ G) (f : Fresh ρ s.h s'.h) (k : ∀ ρ' a' w', Step ρ s.h w ρ' s'.h w' → FRel ρ' nt s' a' w' → K a' w') : turn P ops Q o K a w := by
  unfold stepV at e
  unfold turn
  split at e
  · rename_i hg
    rw [guardV_ok r.env hg]
    simp only [Option.map_eq_some_iff] at e
    obtain ⟨env', e, rfl⟩ := e
    exact k ρ _ w (Step.refl r.sim) ⟨r.sim, r.env.putD e undef_rel, by rw [put_defers']; exact r.ds⟩
  · rename_i hg
    rw [guardV_ok r.env hg]
    refine .inl ?_
    split at e
    · split at e
      · rename_i v hv
        simp only [Option.map_eq_some_iff] at e
        obtain ⟨env', e, rfl⟩ := e
        exact wp_gives (rdAll_ok r.sim r.env g hv) fun v' hv' => k ρ _ w (Step.refl r.sim) ⟨r.sim, r.env.putD e hv', by rw [put_defers']; exact r.ds⟩
      · cases e
    · split at e
      · rename_i v h1 hv
        simp only [Option.map_eq_some_iff] at e
        obtain ⟨env', e, rfl⟩ := e
        exact wp_moves (alOp_ok r.sim f r.env g hv) fun ρ' w' v' st hv' => k ρ' _ w' st ⟨st.sim, (r.env.mono st.toExt).putD e hv', by rw [put_defers']; exact r.ds.mono st.toExt⟩
      · cases e
    · split at e
      · rename_i v h1 ds hv
        simp only [Option.map_eq_some_iff] at e
        obtain ⟨env', e, rfl⟩ := e
        refine mvOp_ok co hv r g f fun ρ' w' v' D st hv' hd => k ρ' _ w' st ⟨st.sim, ?_, by rw [put_defers']; exact hd⟩
        have r' : ERel ρ' nt s.env ({ a with defers := D } : Act).tmps := r.env.mono st.toExt
        exact r'.putD e hv'
      · cases e
  · cases e

theorem FRel.drew {s : St} (r : FRel ρ nt s a w) (n : Nat) : FRel ρ nt s a { w with drawn := n } := ⟨(Step.drew r.sim n).sim, r.env, r.ds⟩

theorem stepsV_ok (co : CallOK P G call) (cn : CallN call) {Q : Exit → Act → World → Prop} : ∀ {l : List Oper} {ρ : Ren} {w : World} {a : Act} {s s' : St}, stepsV P G nt call ops l s = some s' →
    FRel ρ nt s a w → GOK ρ G → Fresh ρ s.h s'.h → (∀ ρ' a' w', Step ρ s.h w ρ' s'.h w' → FRel ρ' nt s' a' w' → Q .normal a' w') → wpList P ops Q l a w
  | [], ρ, w, a, s, s', e, r, g, f, k => by
    simp [stepsV] at e; subst e
    exact k ρ a w (Step.refl r.sim) r
  | o :: l, ρ, w, a, s, s', e, r, g, f, k => by
    simp only [stepsV] at e
    split at e
    · rename_i s1 h1
      have n1 := stepsV_n cn e
      have f1 : Fresh ρ s.h s1.h := f.left n1
      refine stepV_ok co h1 r g f1 fun ρ1 a1 w1 st1 r1 => ?_
      exact stepsV_ok co cn e r1 (g.mono st1.toExt) (f.right st1) fun ρ2 a2 w2 st2 r2 => k ρ2 a2 w2 (Step.trans f st1 st2) r2
    · cases e

def X.toExit : X → Exit
  | .normal => .normal
  | .ret => .ret
  | .exit id => .exit id

/-- Regions whose order is drawn are done as the plan does them. -/
def DrawsOK (P : Program) (G nt : Nat) (call : CallF) : Prop :=
  ∀ (id : Nat) (ops : Array Oper) (s s' : St), drawV P G nt call ops s = some s' → ∀ (ρ : Ren) (a : Act) (w : World) (Q : Exit → Act → World → Prop), FRel ρ nt s a w → GOK ρ G → Fresh ρ s.h s'.h →
    (∀ ρ' a' w', Step ρ s.h w ρ' s'.h w' → FRel ρ' nt s' a' w' → Q .normal a' w') → (Code.region id ops true).wp P Q a w

/-- What is shown of a body. -/
def RunsTo (P : Program) (G nt : Nat) (c : Code) (s : St) (x : X) (s' : St) : Prop :=
  ∀ (ρ : Ren) (a : Act) (w : World) (Q : Exit → Act → World → Prop), FRel ρ nt s a w → GOK ρ G → Fresh ρ s.h s'.h →
    (∀ ρ' a' w', Step ρ s.h w ρ' s'.h w' → FRel ρ' nt s' a' w' → Q x.toExit a' w') → c.wp P Q a w

theorem loopV_ok {c : Code} {body : St → Option (X × St)} (hb : ∀ s x s', body s = some (x, s') → RunsTo P G nt c s x s') (hn : ∀ s x s', body s = some (x, s') → s.h.n ≤ s'.h.n) :
    ∀ (n : Nat) {s s' : St} {x : X}, loopV body n s = some (x, s') → x ≠ .normal ∧ ∀ (ρ : Ren) (a : Act) (w : World) (Q : Exit → Act → World → Prop), FRel ρ nt s a w → GOK ρ G → Fresh ρ s.h s'.h →
    (∀ ρ' a' w', Step ρ s.h w ρ' s'.h w' → FRel ρ' nt s' a' w' → Q x.toExit a' w') → Code.rounds P c Q n a w
  | 0, s, s', x, e => by simp [loopV] at e
  | n + 1, s, s', x, e => by
    simp only [loopV] at e
    split at e
    · rename_i s1 h1
      obtain ⟨hx, ih⟩ := loopV_ok hb hn n e
      refine ⟨hx, fun ρ a w Q r g f k => ?_⟩
      rw [rounds_succ]
      have n1 : s1.h.n ≤ s'.h.n := loopV_n hn e
      refine hb _ _ _ h1 ρ a w _ r g (f.left n1) fun ρ1 a1 w1 st1 r1 => ?_
      exact ih ρ1 a1 w1 Q r1 (g.mono st1.toExt) (f.right st1) fun ρ2 a2 w2 st2 r2 => k ρ2 a2 w2 (Step.trans f st1 st2) r2
    · rename_i hx
      have hx' : x ≠ .normal := fun h => by subst h; exact hx _ e
      refine ⟨hx', fun ρ a w Q r g f k => ?_⟩
      rw [rounds_succ]
      refine hb _ _ _ e ρ a w _ r g f fun ρ1 a1 w1 st1 r1 => ?_
      have := k ρ1 a1 w1 st1 r1
      cases x with
      | normal => exact absurd rfl hx'
      | ret => exact this
      | exit id => exact this

theorem evC_ok (co : CallOK P G call) (cn : CallN call) (dr : DrawsOK P G nt call) : ∀ (c : Code) {s s' : St} {x : X}, evC P G nt call lf c s = some (x, s') → RunsTo P G nt c s x s'
  | .skip, s, s', x, e, ρ, a, w, Q, r, g, f, k => by
    simp [evC] at e; obtain ⟨rfl, rfl⟩ := e
    exact wp_skip (k ρ a w (Step.refl r.sim) r)
  | .label _, s, s', x, e, ρ, a, w, Q, r, g, f, k => by
    simp [evC] at e; obtain ⟨rfl, rfl⟩ := e
    exact wp_label (k ρ a w (Step.refl r.sim) r)
  | .region id ops draw, s, s', x, e, ρ, a, w, Q, r, g, f, k => by
    simp only [evC] at e
    split at e
    · rename_i hd
      simp only [Option.map_eq_some_iff, Prod.mk.injEq] at e
      obtain ⟨s1, e, rfl, rfl⟩ := e
      rw [hd]
      exact dr id ops s s1 e ρ a w Q r g f k
    · rename_i hd
      simp only [Option.map_eq_some_iff, Prod.mk.injEq] at e
      obtain ⟨s1, e, rfl, rfl⟩ := e
      have hd' : draw = false := by simpa using hd
      rw [hd']
      exact wp_region_list (stepsV_ok co cn e r g f k)
  | .seq x y, s, s', z, e, ρ, a, w, Q, r, g, f, k => by
    simp only [evC] at e
    split at e
    · rename_i s1 h1
      refine wp_seq (evC_ok co cn dr x h1 ρ a w _ r g (f.left (evC_n cn y e)) fun ρ1 a1 w1 st1 r1 => ?_)
      exact evC_ok co cn dr y e ρ1 a1 w1 Q r1 (g.mono st1.toExt) (f.right st1) fun ρ2 a2 w2 st2 r2 => k ρ2 a2 w2 (Step.trans f st1 st2) r2
    · rename_i hx
      refine wp_seq (evC_ok co cn dr x e ρ a w _ r g f fun ρ1 a1 w1 st1 r1 => ?_)
      have := k ρ1 a1 w1 st1 r1
      cases z with
      | normal => exact absurd e (hx _)
      | ret => exact this
      | exit id => exact this
  | .cond c x y, s, s', z, e, ρ, a, w, Q, r, g, f, k => by
    simp only [evC] at e
    split at e
    · rename_i hc
      exact wp_cond_true (inv_bool (opV_rel r.env g hc)) (evC_ok co cn dr x e ρ a w Q r g f k)
    · rename_i hc
      exact wp_cond_false (inv_bool (opV_rel r.env g hc)) (evC_ok co cn dr y e ρ a w Q r g f k)
    · cases e
  | .block id c, s, s', x, e, ρ, a, w, Q, r, g, f, k => by
    simp only [evC] at e
    split at e
    · rename_i i s1 h1
      simp only [Option.some.injEq, Prod.mk.injEq] at e; obtain ⟨rfl, rfl⟩ := e
      refine wp_block (evC_ok co cn dr c h1 ρ a w _ r g f fun ρ1 a1 w1 st1 r1 => ?_)
      have := k ρ1 a1 w1 st1 r1
      simp only [X.toExit, Exit.inBlock]
      split
      · rename_i hi; simpa [hi, X.toExit] using this
      · rename_i hi; simpa [hi, X.toExit] using this
    · rename_i hx
      refine wp_block (evC_ok co cn dr c e ρ a w _ r g f fun ρ1 a1 w1 st1 r1 => ?_)
      have := k ρ1 a1 w1 st1 r1
      cases x with
      | normal => exact this
      | ret => exact this
      | exit id => exact absurd e (hx _ _)
  | .loop c, s, s', x, e, ρ, a, w, Q, r, g, f, k => by
    simp only [evC] at e
    exact wp_loop_rounds lf ((loopV_ok (fun s x s' h => evC_ok co cn dr c h) (fun s x s' h => evC_n cn c h) lf e).2 ρ a w Q r g f k)
  | .exit id, s, s', x, e, ρ, a, w, Q, r, g, f, k => by
    simp [evC] at e; obtain ⟨rfl, rfl⟩ := e
    exact wp_exit (k ρ a w (Step.refl r.sim) r)
  | .scope c, s, s', x, e, ρ, a, w, Q, r, g, f, k => by
    simp only [evC] at e
    refine wp_scope_straight (evC_ok co cn dr c e ρ a w _ r g f fun ρ1 a1 w1 st1 r1 => ?_)
    have := k ρ1 a1 w1 st1 r1
    cases x with
    | normal => exact this
    | ret => exact this
    | exit id => exact this
  | .ret, s, s', x, e, ρ, a, w, Q, r, g, f, k => by
    simp [evC] at e; obtain ⟨rfl, rfl⟩ := e
    exact wp_ret (k ρ a w (Step.refl r.sim) r)
  | .goto _, s, s', x, e, ρ, a, w, Q, r, g, f, k => by simp [evC] at e
  | .refuse _, s, s', x, e, ρ, a, w, Q, r, g, f, k => by simp [evC] at e
  | .rangeFunc _ _ _ _, s, s', x, e, ρ, a, w, Q, r, g, f, k => by simp [evC] at e

def resOf (tmps : Array Value) : ResultVar → Sem Value
  | .tmp t => pure (tmps.getD t undef)
  | .cell a t => do loadVar t (← asAddr (tmps.getD a undef))

theorem results_eq (fn : Func) (tmps : Array Value) : results fn tmps = (do
    let vs ← fn.results.mapM (resOf tmps)
    pure (if h : vs.size = 1 then vs[0] else .tuple vs)) := by
  unfold results
  have : (fun (x : ResultVar) => (match x with
    | .tmp t => (pure (tmps.getD t undef) : Sem Value)
    | .cell a t => do loadVar t (← asAddr (tmps.getD a undef)))) = resOf tmps := by
    funext x; cases x <;> rfl
  rw [← this]
  rfl

theorem resV_ok {h : H} (s : Sim ρ h w) {env : T V} (r : ERel ρ nt env a.tmps) : ∀ {l : List ResultVar} {m : List V}, resV P h env l = some m →
    ∃ m', (l.mapM (resOf a.tmps)).run P w = .ok m' w ∧ LRel ρ m m'
  | [], m, e => by simp [resV] at e; subst e; exact ⟨[], by simp, by simp [LRel]⟩
  | .tmp t :: l, m, e => by
    simp only [resV] at e
    split at e
    · rename_i v m1 h1 h2
      simp only [Option.some.injEq] at e; subst e
      obtain ⟨m', h3, h4⟩ := resV_ok s r h2
      obtain ⟨v', h5, h6⟩ := r.2 t v h1
      refine ⟨v' :: m', ?_, by simp only [LRel]; exact ⟨h6, h4⟩⟩
      simp only [List.mapM_cons, Sem.run_bind, resOf, Sem.run_pure, Result.andThen_ok, h3, Array.getD_eq_getD_getElem?, h5, Option.getD_some]
    · cases e
  | .cell a' t :: l, m, e => by
    simp only [resV] at e
    split at e
    · rename_i p m1 h1 h2
      simp only [Option.map_eq_some_iff] at e; obtain ⟨v, e, rfl⟩ := e
      obtain ⟨m', h3, h4⟩ := resV_ok s r h2
      obtain ⟨p', h5, h6⟩ := r.2 a' p h1
      obtain ⟨v', h7, h8⟩ := loadV_ok (P := P) s e h6
      refine ⟨v' :: m', ?_, by simp only [LRel]; exact ⟨h8, h4⟩⟩
      have hp : ∃ ad, p' = .pointer (some ad) := by
        unfold loadV at e
        split at e
        · obtain ⟨ad, h9, _⟩ := inv_ptr h6; exact ⟨ad, h9⟩
        · cases e
      obtain ⟨ad, rfl⟩ := hp
      simp only [Instr.loadAt, Instr.sureAddr, Sem.run_bind, Sem.run_pure, Result.andThen_ok] at h7
      simp only [List.mapM_cons, Sem.run_bind, resOf, Sem.run_pure, Result.andThen_ok, h3, Array.getD_eq_getD_getElem?, h5, Option.getD_some, asAddr, h7]
    · cases e

theorem resultsV_ok {h : H} (s : Sim ρ h w) {env : T V} (r : ERel ρ nt env a.tmps) {fn : Func} {v : V} (e : resultsV P h env fn = some v) :
    ∃ v', (results fn a.tmps).run P w = .ok v' w ∧ VRel ρ v v' := by
  rw [results_eq]
  have main : ∀ m, resV P h env fn.results.toList = some m → ∃ m' : Array Value, (fn.results.mapM (resOf a.tmps)).run P w = .ok m' w ∧ LRel ρ m m'.toList := fun m hm => by
    obtain ⟨m', h1, h2⟩ := resV_ok s r hm
    refine ⟨m'.toArray, ?_, by simpa using h2⟩
    have : fn.results.mapM (resOf a.tmps) = (do let l ← fn.results.toList.mapM (resOf a.tmps); pure l.toArray) := by
      rw [Array.mapM_eq_mapM_toList]; simp [Functor.map, map_eq_pure_bind]
    rw [this]
    simp [h1]
  unfold resultsV at e
  split at e
  · rename_i u hm
    simp only [Option.some.injEq] at e; subst e
    obtain ⟨m', h1, h2⟩ := main _ hm
    obtain ⟨l'⟩ := m'
    have hl := h2.length.symm
    match l', h2, hl with
    | [u'], h2, _ =>
      simp only [LRel] at h2
      exact ⟨u', by simp [h1], h2.1⟩
  · rename_i l hne hm
    simp only [Option.some.injEq] at e; subst e
    obtain ⟨m', h1, h2⟩ := main _ hm
    have hl := h2.length.symm
    have hs : m'.size ≠ 1 := fun hs => by
      have : l.length = 1 := by rw [hl]; simpa using hs
      match l, this, hne with
      | [u], _, hne => exact hne u rfl
    refine ⟨.tuple m', by simp [h1, hs], ?_⟩
    obtain ⟨l'⟩ := m'
    simpa [VRel] using h2
  · cases e

theorem envOf_rel {ρ : Ren} (nt : Nat) : ∀ (l : List V) (l' : List Value) (pre : List Value) (t : T V) (k : Nat), LRel ρ l l' → pre.length + l.length + k = nt →
    (∀ i v, t.get i = some v → ∃ v', pre[i]? = some v' ∧ VRel ρ v v') →
    ∀ i v, (envOf l pre.length t).get i = some v → ∃ v', (pre ++ l' ++ List.replicate k undef)[i]? = some v' ∧ VRel ρ v v'
  | [], [], pre, t, k, _, _, h, i, v, e => by
    obtain ⟨v', h1, h2⟩ := h i v (by simpa [envOf] using e)
    refine ⟨v', ?_, h2⟩
    have : i < pre.length := (List.getElem?_eq_some_iff.1 h1).1
    simp only [List.append_nil]
    rw [List.getElem?_append_left this]; exact h1
  | u :: l, u' :: l', pre, t, k, r, hk, h, i, v, e => by
    simp only [LRel] at r
    have := envOf_rel nt l l' (pre ++ [u']) (t.set pre.length (some u)) k r.2 (by simp at hk ⊢; omega) (fun i v e => ?_) i v (by simpa [envOf] using e)
    · simpa using this
    · rw [T.get_set] at e
      split at e
      · rename_i hi; subst hi; simp only [Option.some.injEq] at e; subst e
        exact ⟨u', by simp, r.1⟩
      · obtain ⟨v', h1, h2⟩ := h i v e
        exact ⟨v', by rw [List.getElem?_append_left (List.getElem?_eq_some_iff.1 h1).1]; exact h1, h2⟩
  | [], _ :: _, _, _, _, r, _, _, _, _, _ => by simp [LRel] at r
  | _ :: _, [], _, _, _, r, _, _, _, _, _ => by simp [LRel] at r

theorem enter_rel {h : H} (s : Sim ρ h w) {fn : Func} {args : List V} {args' : Array Value} (r : LRel ρ args args'.toList) (hl : args.length ≤ fn.ntmps) :
    FRel ρ fn.ntmps ⟨envOf args 0 .nil, h, []⟩ { tmps := args' ++ Array.replicate (fn.ntmps - args'.size) undef, defers := [] } w := by
  have hs : args'.size = args.length := by rw [← r.length]; simp
  refine ⟨s, ⟨by simp [hs]; omega, fun i v e => ?_⟩, trivial⟩
  have := envOf_rel fn.ntmps args args'.toList [] .nil (fn.ntmps - args'.size) r (by simp [hs]; omega) (fun i v e => by simp [T.get] at e) i v e
  obtain ⟨v', h1, h2⟩ := this
  refine ⟨v', ?_, h2⟩
  rw [← Array.getElem?_toList]
  simpa using h1

/-- A body from its arguments. -/
theorem bodyV_ok (co : CallOK P G call) (cn : CallN call) (dr : ∀ nt, DrawsOK P G nt call) {fn : Func} {args : List V} {h : H} {s : St} (e : bodyV P G call lf fn args h = some s)
    {args' : Array Value} (sm : Sim ρ h w) (g : GOK ρ G) (f : Fresh ρ h s.h) (r : LRel ρ args args'.toList) :
    ∃ c, fn.body = some c ∧ ∀ Q : Exit → Act → World → Prop, (∀ ρ' a' w', Step ρ h w ρ' s.h w' → FRel ρ' fn.ntmps s a' w' → Q .normal a' w' ∧ Q .ret a' w') →
      c.wp P Q { tmps := args' ++ Array.replicate (fn.ntmps - args'.size) undef, defers := [] } w := by
  unfold bodyV at e
  split at e
  · rename_i c hc
    split at e
    · rename_i hl
      refine ⟨c, hc, fun Q k => ?_⟩
      have fr := enter_rel sm r hl
      split at e
      · rename_i s1 hs; simp only [Option.some.injEq] at e; subst e
        exact evC_ok co cn (dr _) c hs ρ _ w Q fr g f fun ρ' a' w' st r' => (k ρ' a' w' st r').1
      · rename_i s1 hs; simp only [Option.some.injEq] at e; subst e
        exact evC_ok co cn (dr _) c hs ρ _ w Q fr g f fun ρ' a' w' st r' => (k ρ' a' w' st r').2
      · cases e
    · cases e
  · cases e

/-- The program has no body by the one name that the machine keeps for itself. -/
def Plain (P : Program) : Prop := ∀ (f : Nat) (fn : Func), P.funcs[f]? = some fn → fn.body.isSome = true → (fn.name == "runtime.NumGoroutine") = false

theorem run_callFunc (np : Plain P) {f : Nat} {fn : Func} {c : Code} (hf : P.funcs[f]? = some fn) (hb : fn.body = some c) (args : Array Value) :
    (callFunc f args).run P w = .ok (.enter f args) w := by
  have hn := np f fn hf (by simp [hb])
  simp only [callFunc, Sem.run_bind, run_program, Result.andThen_ok, hf, hn, hb]
  simp

theorem deferV_ok (np : Plain P) (co : CallOK P G call) (cn : CallN call) (dr : ∀ nt, DrawsOK P G nt call) {fn : Func} {tmps : Array Value} {R : Ending → World → Prop} :
    ∀ {l : List (Nat × List V)} {D : List Deferred} {ρ : Ren} {w : World} {h h' : H}, deferV P G call lf l h = some h' → Sim ρ h w → GOK ρ G → Fresh ρ h h' → DRel ρ l D →
      (∀ ρ' w', Step ρ h w ρ' h' w' → ∃ v, (results fn tmps).run P w' = .ok v w' ∧ R (.returned v) w') → Leaves P fn tmps R D .returning w
  | [], [], ρ, w, h, h', e, s, g, f, d, k => by
    simp [deferV] at e; subst e
    exact k ρ w (Step.refl s)
  | (f0, args) :: l, dd :: D, ρ, w, h, h', e, s, g, f, d, k => by
    simp only [deferV] at e
    split at e
    · rename_i fn0 hf0
      split at e
      · rename_i s1 hs1
        split at e
        · rename_i hem
          simp only [Bool.and_eq_true, List.isEmpty_iff] at hem
          obtain ⟨hds, hres⟩ := hem
          obtain ⟨v1, hv1⟩ := Option.isSome_iff_exists.1 hres
          simp only [DRel] at d
          obtain ⟨⟨cap, ht, ha⟩, d'⟩ := d
          have f1 : Fresh ρ h s1.h := f.left (deferV_n cn e)
          obtain ⟨c, hc, hw⟩ := bodyV_ok co cn dr hs1 s g f1 ha
          obtain ⟨dt, da⟩ := dd
          simp only at ht ha hw
          subst ht
          refine leaves_cons (f := f0) (args := da ++ cap) (by simp) (by simp only [invoke]; exact run_callFunc np hf0 hc _) ?_
          refine CallsD.mono (callsD_of_wp (R := fun e w' => ∃ v, e = .returned v ∧ Leaves P fn tmps R D .returning w') hf0 hc (hw _ fun ρ1 a1 w1 st1 r1 => ?_)) ?_
          · have hdef : a1.defers = [] := by
              have := r1.ds
              rw [hds] at this
              cases hd : a1.defers with
              | nil => rfl
              | cons x y => rw [hd] at this; simp [DRel] at this
            obtain ⟨v', h1, h2⟩ := resultsV_ok r1.sim r1.env hv1
            have hl : Leaves P fn tmps R D .returning w1 := deferV_ok np co cn dr e r1.sim (g.mono st1.toExt) (f.right st1) (d'.mono st1.toExt) fun ρ2 w2 st2 => k ρ2 w2 (Step.trans f st1 st2)
            have : bodyPost P fn0 (fun e w' => ∃ v, e = .returned v ∧ Leaves P fn tmps R D .returning w') .normal a1 w1 := ⟨hdef, v', h1, v', rfl, hl⟩
            exact ⟨this, this⟩
          · rintro e u' w' ⟨rfl, v, rfl, hl⟩
            exact hl
        · cases e
      · cases e
    · cases e
  | [], _ :: _, ρ, w, h, h', e, s, g, f, d, k => by simp [DRel] at d
  | _ :: _, [], ρ, w, h, h', e, s, g, f, d, k => by simp [DRel] at d

def ExtOK (P : Program) (G : Nat) (ext : Nat → Option (List V → H → Option (V × H))) : Prop := ∀ f g, ext f = some g → ∀ args h v h', g args h = some (v, h') →
  ∀ (ρ : Ren) (w : World) (args' : Array Value), Sim ρ h w → GOK ρ G → Fresh ρ h h' → LRel ρ args args'.toList →
    CallsTo P f args' w (fun v' w' => ∃ ρ', Step ρ h w ρ' h' w' ∧ VRel ρ' v v')

/-- For every call there is: what is drawn is done as planned. -/
def AllDraws (P : Program) (G : Nat) : Prop := ∀ call, CallOK P G call → CallN call → ∀ nt, DrawsOK P G nt call

/-- What a call of a function with a body comes to. -/
theorem callsTo_of_calls (np : Plain P) {f : Nat} {fn : Func} {c : Code} (hf : P.funcs[f]? = some fn) (hb : fn.body = some c) {args : Array Value} {R : Value → World → Prop}
    (h : Calls P f args w fun e w' => ∃ v, e = .returned v ∧ R v w') : CallsTo P f args w R := fun o a K Q k => by
  rw [run_callFunc np hf hb]
  refine Calls.mono h fun e w' he => ?_
  obtain ⟨v, rfl, hv⟩ := he
  exact k v w' hv

theorem evF_ok (np : Plain P) {ext : Nat → Option (List V → H → Option (V × H))} (eo : ExtOK P G ext) (en : ExtN ext) (ad : AllDraws P G) : ∀ n, CallOK P G (evF P G ext n)
  | 0, f, args, h, v, h', e => by simp [evF] at e
  | n + 1, f, args, h, v, h', e => fun ρ w args' s g fr r => by
    have ih := evF_ok np eo en ad n
    have ihn := evF_n (P := P) (G := G) en n
    simp only [evF] at e
    split at e
    · rename_i g0 hg; exact eo f g0 hg _ _ _ _ e ρ w args' s g fr r
    · split at e
      · rename_i fn hf
        split at e
        · rename_i s1 hs1
          split at e
          · rename_i h1 hd
            simp only [Option.map_eq_some_iff, Prod.mk.injEq] at e; obtain ⟨v0, hv0, rfl, rfl⟩ := e
            obtain ⟨c, hc, hw⟩ := bodyV_ok ih ihn (ad _ ih ihn) hs1 s g (fr.left (deferV_n ihn hd)) r
            refine callsTo_of_calls np hf hc (calls_of_wp_defers hf hc (hw _ fun ρ1 a1 w1 st1 r1 => ?_))
            have hl : Leaves P fn a1.tmps (fun e w' => ∃ v, e = .returned v ∧ ∃ ρ', Step ρ h w ρ' h1 w' ∧ VRel ρ' v0 v) a1.defers .returning w1 :=
              deferV_ok np ih ihn (ad _ ih ihn) hd r1.sim (g.mono st1.toExt) (fr.right st1) r1.ds fun ρ2 w2 st2 => by
                obtain ⟨v', h3, h4⟩ := resultsV_ok st2.sim (r1.env.mono st2.toExt) hv0
                exact ⟨v', h3, v', rfl, ρ2, Step.trans fr st1 st2, h4⟩
            exact ⟨hl, hl⟩
          · cases e
        · cases e
      · cases e

end
end Go.Proofs.YtgihdlhoaimlpaaGreatDoor.AM
