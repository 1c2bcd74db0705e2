/- The abstract machine: the numbers given out only rise. -/
import Derived.Test.YtgihdlhoaimlpaaGreatDoorAMs
namespace Go.Proofs.YtgihdlhoaimlpaaGreatDoor.AM
set_option autoImplicit false
set_option linter.unusedSimpArgs false
set_option linter.unusedVariables false

section
variable {P : Program} {G nt : Nat} {h h' : H} {v : V}

theorem allocV_n {t : Nat} (e : allocV P h t = some (v, h')) : h.n ≤ h'.n := by
  simp only [allocV, Option.map_eq_some_iff, Prod.mk.injEq] at e; obtain ⟨_, _, _, rfl⟩ := e; simp
theorem buildSliceV_n {t n : Nat} {ps : List (Nat × V)} (e : buildSliceV P h t n ps = some (v, h')) : h.n ≤ h'.n := by
  unfold buildSliceV at e
  repeat' (first | (cases e; done) | split at e)
  all_goals (try cases e)
  simp only [Option.map_eq_some_iff, Prod.mk.injEq] at e; obtain ⟨_, _, _, rfl⟩ := e; simp
theorem makeSliceV_n {t : Nat} {l c : V} (e : makeSliceV P h t l c = some (v, h')) : h.n ≤ h'.n := by
  unfold makeSliceV at e
  repeat' (first | (cases e; done) | split at e)
  all_goals (try cases e)
  simp
theorem strBytesV_n {s d : Nat} {x : V} (e : strBytesV P h s d x = some (v, h')) : h.n ≤ h'.n := by
  unfold strBytesV at e
  repeat' (first | (cases e; done) | split at e)
  all_goals (try cases e)
  simp
theorem alOp_n {env : T V} {o : Oper} (e : alOp P G h env o = some (v, h')) : h.n ≤ h'.n := by
  unfold alOp at e
  split at e
  · exact allocV_n e
  · split at e
    · simp only [boxV, Option.some.injEq, Prod.mk.injEq] at e; obtain ⟨_, rfl⟩ := e; simp
    · cases e
  · split at e
    · exact buildSliceV_n e
    · cases e
  · split at e
    · exact makeSliceV_n e
    · cases e
  · split at e
    · exact strBytesV_n e
    · cases e
  · split at e
    · split at e
      · simp only [makeMapV, Option.some.injEq, Prod.mk.injEq] at e; obtain ⟨_, rfl⟩ := e; simp
      · cases e
    · cases e
  · cases e
theorem storeV_n {t : Nat} {x u : V} (e : storeV P h t x u = some h') : h'.n = h.n := by
  unfold storeV at e
  repeat' (first | (cases e; done) | split at e)
  all_goals (try cases e)
  rfl
theorem updV_n {t : Nat} {m k u : V} (e : updV P h t m k u = some h') : h'.n = h.n := by
  unfold updV at e
  repeat' (first | (cases e; done) | split at e)
  all_goals (try cases e)
  all_goals rfl
theorem delV_n {t : Nat} {m k : V} (e : delV P h t m k = some h') : h'.n = h.n := by
  unfold delV at e
  repeat' (first | (cases e; done) | split at e)
  all_goals (try cases e)
  all_goals rfl
theorem clearV_n {t : Nat} {m : V} (e : clearV P h t m = some h') : h'.n = h.n := by
  unfold clearV at e
  repeat' (first | (cases e; done) | split at e)
  all_goals (try cases e)
  all_goals rfl
theorem rangeV_n {t : Nat} {x : V} (e : rangeV P h t x = some (v, h')) : h.n ≤ h'.n := by
  unfold rangeV at e
  repeat' (first | (cases e; done) | split at e)
  all_goals (try cases e)
  all_goals simp
theorem nextV_n {x : V} {str : Bool} (e : nextV h x str = some (v, h')) : h.n ≤ h'.n := by
  unfold nextV at e
  repeat' (first | (cases e; done) | split at e)
  all_goals (try cases e)
  all_goals simp
theorem appendV_n {t0 t1 : Nat} {s x : V} (e : appendV P h t0 t1 s x = some (v, h')) : h.n ≤ h'.n := by
  unfold appendV at e
  repeat' (first | (cases e; done) | split at e)
  all_goals (try cases e)
  all_goals simp

theorem copyV_n {t : Nat} {x y : V} (e : copyV P h t x y = some (v, h')) : h'.n = h.n := by
  unfold copyV at e
  repeat' (first | (cases e; done) | split at e)
  all_goals (simp only [Option.some.injEq, Prod.mk.injEq] at e; obtain ⟨_, rfl⟩ := e; simp)
theorem unStrV_n {t : Nat} {x y : V} (e : unStrV P h t x y = some (v, h')) : h'.n = h.n := by
  unfold unStrV at e
  repeat' (first | (cases e; done) | split at e)
  all_goals (simp only [Option.some.injEq, Prod.mk.injEq] at e; obtain ⟨_, rfl⟩ := e; simp)

theorem bltV_n {env : T V} {b : Builtin} {args : List Operand} {tys : List Nat} (e : bltV P G env h b args tys = some (v, h')) : h.n ≤ h'.n := by
  unfold bltV at e
  split at e
  · split at e
    · unfold blt2 at e
      split at e
      · exact appendV_n e
      · simp only [Option.map_eq_some_iff, Prod.mk.injEq] at e; obtain ⟨_, e, _, rfl⟩ := e; rw [delV_n e]; exact Nat.le_refl _
      · rw [copyV_n e]; exact Nat.le_refl _
      · rw [unStrV_n e]; exact Nat.le_refl _
      · cases e
    · cases e
  · split at e
    · unfold blt1 at e
      split at e
      · simp only [Option.map_eq_some_iff, Prod.mk.injEq] at e; obtain ⟨_, e, _, rfl⟩ := e; rw [clearV_n e]; exact Nat.le_refl _
      · simp only [Option.map_eq_some_iff, Prod.mk.injEq] at e; obtain ⟨_, e, _, rfl⟩ := e; exact Nat.le_refl _
      · cases e
    · cases e
  · cases e

def CallN (call : CallF) : Prop := ∀ f args h v h', call f args h = some (v, h') → h.n ≤ h'.n

theorem mvOp_n {call : CallF} (cn : CallN call) {s : St} {o : Oper} {ds : List (Nat × List V)} (e : mvOp P G call s o = some (v, h', ds)) : s.h.n ≤ h'.n := by
  unfold mvOp at e
  split at e
  · split at e
    · simp only [Option.map_eq_some_iff, Prod.mk.injEq] at e; obtain ⟨_, e, _, rfl, _⟩ := e; rw [storeV_n e]; exact Nat.le_refl _
    · cases e
  · split at e
    · simp only [Option.map_eq_some_iff, Prod.mk.injEq] at e; obtain ⟨_, e, _, rfl, _⟩ := e; rw [updV_n e]; exact Nat.le_refl _
    · cases e
  · split at e
    · simp only [Option.map_eq_some_iff, Prod.mk.injEq] at e; obtain ⟨_, e, _, rfl, _⟩ := e; rw [updV_n e]; exact Nat.le_refl _
    · cases e
  · split at e
    · simp only [Option.map_eq_some_iff, Prod.mk.injEq] at e; obtain ⟨⟨_, _⟩, e, _, rfl, _⟩ := e; exact rangeV_n e
    · cases e
  · split at e
    · simp only [Option.map_eq_some_iff, Prod.mk.injEq] at e; obtain ⟨⟨_, _⟩, e, _, rfl, _⟩ := e; exact nextV_n e
    · cases e
  · split at e
    · simp only [Option.map_eq_some_iff, Prod.mk.injEq] at e; obtain ⟨_, e, _, rfl, _⟩ := e; exact Nat.le_refl _
    · cases e
  · split at e
    · simp only [Option.some.injEq, Prod.mk.injEq] at e; obtain ⟨_, rfl, _⟩ := e; exact Nat.le_refl _
    · cases e
  · split at e
    · simp only [Option.map_eq_some_iff, Prod.mk.injEq] at e; obtain ⟨⟨_, _⟩, e, _, rfl, _⟩ := e; exact bltV_n e
    · split at e
      · simp only [Option.map_eq_some_iff, Prod.mk.injEq] at e; obtain ⟨⟨_, _⟩, e, _, rfl, _⟩ := e; exact cn _ _ _ _ _ e
      · cases e
  · cases e

theorem stepV_n {call : CallF} (cn : CallN call) {ops : Array Oper} {s s' : St} {o : Oper} (e : stepV P G nt call ops s o = some s') : s.h.n ≤ s'.h.n := by
  unfold stepV at e
  split at e
  · simp only [Option.map_eq_some_iff] at e; obtain ⟨_, _, rfl⟩ := e; exact Nat.le_refl _
  · split at e
    · split at e
      · simp only [Option.map_eq_some_iff] at e; obtain ⟨_, _, rfl⟩ := e; exact Nat.le_refl _
      · cases e
    · split at e
      · rename_i h1; simp only [Option.map_eq_some_iff] at e; obtain ⟨_, _, rfl⟩ := e; exact alOp_n h1
      · cases e
    · split at e
      · rename_i h1; simp only [Option.map_eq_some_iff] at e; obtain ⟨_, _, rfl⟩ := e; exact mvOp_n cn h1
      · cases e
  · cases e

theorem stepsV_n {call : CallF} (cn : CallN call) {ops : Array Oper} : ∀ {l : List Oper} {s s' : St}, stepsV P G nt call ops l s = some s' → s.h.n ≤ s'.h.n
  | [], s, s', e => by simp [stepsV] at e; subst e; exact Nat.le_refl _
  | o :: l, s, s', e => by
    simp only [stepsV] at e
    split at e
    · rename_i s1 h1; exact Nat.le_trans (stepV_n cn h1) (stepsV_n cn e)
    · cases e

theorem drawStep_n {call : CallF} (cn : CallN call) {ops : Array Oper} {bf : List Nat} {p : PE} {d d' : DR} (e : drawStep P G nt call ops bf p d = some d') : d.s.h.n ≤ d'.s.h.n := by
  unfold drawStep at e
  simp only at e
  split at e
  · cases e
  · simp only [Option.map_eq_some_iff] at e; obtain ⟨_, _, rfl⟩ := e; exact Nat.le_refl _
  · split at e
    · split at e
      · cases e
      · split at e
        · cases e
        · split at e
          · simp only [Option.map_eq_some_iff] at e; obtain ⟨_, _, rfl⟩ := e; exact Nat.le_refl _
          · cases e
    · split at e
      · cases e
      · rename_i h1
        split at e
        · cases e
        · simp only [Option.map_eq_some_iff] at e; obtain ⟨_, _, rfl⟩ := e; exact alOp_n h1
    · split at e
      · cases e
      · rename_i h1
        simp only [Option.map_eq_some_iff] at e; obtain ⟨_, _, rfl⟩ := e; exact mvOp_n (s := ⟨dropL p.drops d.s.env, d.s.h, d.s.ds⟩) cn h1
    · cases e

theorem drawGo_n {call : CallF} (cn : CallN call) {ops : Array Oper} {bf : List Nat} : ∀ {l : List PE} {d d' : DR}, drawGo P G nt call ops bf l d = some d' → d.s.h.n ≤ d'.s.h.n
  | [], d, d', e => by simp [drawGo] at e; subst e; exact Nat.le_refl _
  | p :: l, d, d', e => by
    simp only [drawGo] at e
    split at e
    · rename_i d1 h1; exact Nat.le_trans (drawStep_n cn h1) (drawGo_n cn e)
    · cases e

theorem drawV_n {call : CallF} (cn : CallN call) {ops : Array Oper} {s s' : St} (e : drawV P G nt call ops s = some s') : s.h.n ≤ s'.h.n := by
  unfold drawV at e
  split at e
  · split at e
    · simp only [Option.map_eq_some_iff] at e
      obtain ⟨d, e, rfl⟩ := e
      have := drawGo_n cn e
      exact this
    · cases e
  · cases e

theorem loopV_n {body : St → Option (X × St)} (hb : ∀ s x s', body s = some (x, s') → s.h.n ≤ s'.h.n) : ∀ {n : Nat} {s s' : St} {x : X}, loopV body n s = some (x, s') → s.h.n ≤ s'.h.n
  | 0, s, s', x, e => by simp [loopV] at e
  | n + 1, s, s', x, e => by
    simp only [loopV] at e
    split at e
    · rename_i s1 h1; exact Nat.le_trans (hb _ _ _ h1) (loopV_n hb e)
    · rename_i r hr; exact hb _ _ _ e

theorem evC_n {call : CallF} (cn : CallN call) {lf : Nat} : ∀ (c : Code) {s s' : St} {x : X}, evC P G nt call lf c s = some (x, s') → s.h.n ≤ s'.h.n
  | .skip, s, s', x, e => by simp [evC] at e; obtain ⟨_, rfl⟩ := e; exact Nat.le_refl _
  | .label _, s, s', x, e => by simp [evC] at e; obtain ⟨_, rfl⟩ := e; exact Nat.le_refl _
  | .region _ ops draw, s, s', x, e => by
    simp only [evC] at e
    split at e
    · simp only [Option.map_eq_some_iff, Prod.mk.injEq] at e
      obtain ⟨s1, e, _, rfl⟩ := e
      exact drawV_n cn e
    · simp only [Option.map_eq_some_iff, Prod.mk.injEq] at e
      obtain ⟨s1, e, _, rfl⟩ := e
      exact stepsV_n cn e
  | .seq a b, s, s', x, e => by
    simp only [evC] at e
    split at e
    · rename_i s1 h1; exact Nat.le_trans (evC_n cn a h1) (evC_n cn b e)
    · exact evC_n cn a e
  | .cond c a b, s, s', x, e => by
    simp only [evC] at e
    split at e
    · exact evC_n cn a e
    · exact evC_n cn b e
    · cases e
  | .block id c, s, s', x, e => by
    simp only [evC] at e
    split at e
    · rename_i i s1 h1
      simp only [Option.some.injEq, Prod.mk.injEq] at e; obtain ⟨_, rfl⟩ := e
      exact evC_n cn c h1
    · exact evC_n cn c e
  | .loop c, s, s', x, e => by
    simp only [evC] at e
    exact loopV_n (fun s x s' h => evC_n cn c h) e
  | .exit id, s, s', x, e => by simp [evC] at e; obtain ⟨_, rfl⟩ := e; exact Nat.le_refl _
  | .scope c, s, s', x, e => by simp only [evC] at e; exact evC_n cn c e
  | .ret, s, s', x, e => by simp [evC] at e; obtain ⟨_, rfl⟩ := e; exact Nat.le_refl _
  | .goto _, s, s', x, e => by simp [evC] at e
  | .refuse _, s, s', x, e => by simp [evC] at e
  | .rangeFunc _ _ _ _, s, s', x, e => by simp [evC] at e

theorem bodyV_n {call : CallF} (cn : CallN call) {lf : Nat} {fn : Func} {args : List V} {h : H} {s : St} (e : bodyV P G call lf fn args h = some s) : h.n ≤ s.h.n := by
  unfold bodyV at e
  split at e
  · rename_i c hc
    split at e
    · split at e
      · rename_i s1 hs; simp only [Option.some.injEq] at e; subst e; exact evC_n cn c hs
      · rename_i s1 hs; simp only [Option.some.injEq] at e; subst e; exact evC_n cn c hs
      · cases e
    · cases e
  · cases e

theorem deferV_n {call : CallF} (cn : CallN call) {lf : Nat} : ∀ {l : List (Nat × List V)} {h h' : H}, deferV P G call lf l h = some h' → h.n ≤ h'.n
  | [], h, h', e => by simp [deferV] at e; subst e; exact Nat.le_refl _
  | (f, args) :: l, h, h', e => by
    simp only [deferV] at e
    split at e
    · split at e
      · rename_i s hs
        split at e
        · exact Nat.le_trans (bodyV_n cn hs) (deferV_n cn e)
        · cases e
      · cases e
    · cases e

def ExtN (ext : Nat → Option (List V → H → Option (V × H))) : Prop := ∀ f g, ext f = some g → ∀ args h v h', g args h = some (v, h') → h.n ≤ h'.n

theorem evF_n {ext : Nat → Option (List V → H → Option (V × H))} (en : ExtN ext) : ∀ n, CallN (evF P G ext n)
  | 0, f, args, h, v, h', e => by simp [evF] at e
  | n + 1, f, args, h, v, h', e => by
    simp only [evF] at e
    split at e
    · rename_i g hg; exact en f g hg _ _ _ _ e
    · split at e
      · rename_i fn hf
        split at e
        · rename_i s hs
          split at e
          · rename_i h1 hd
            simp only [Option.map_eq_some_iff, Prod.mk.injEq] at e; obtain ⟨_, _, _, rfl⟩ := e
            exact Nat.le_trans (bodyV_n (evF_n en n) hs) (deferV_n (evF_n en n) hd)
          · cases e
        · cases e
      · cases e

end
end Go.Proofs.YtgihdlhoaimlpaaGreatDoor.AM
