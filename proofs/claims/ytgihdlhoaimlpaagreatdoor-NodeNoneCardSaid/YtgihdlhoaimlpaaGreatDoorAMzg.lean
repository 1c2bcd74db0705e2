/- The abstract machine: the rows: what is asked behind the call. -/
import Derived.Test.YtgihdlhoaimlpaaGreatDoorAMzf
import Derived.ChangeSame
import Derived.Carry
namespace Go.Proofs.YtgihdlhoaimlpaaGreatDoor.AM
set_option autoImplicit false
set_option linter.unusedSimpArgs false
set_option linter.unusedVariables false
open Go.RowKit Go.ChangeShapes

theorem one_of_ok {P : Program} {w : World} {r : Reach} {b t : Nat} {v : Value} (h : Cell.okWide P w r b t v) : v.oneCell' = true := by
  cases v <;> first
    | rfl
    | (exfalso
       unfold Cell.okWide at h
       split at h <;> first
         | (rename_i e; cases e; done)
         | (rename_i e1 e2; cases e2; done)
         | (unfold Cell.ok at h; split at h <;> first
             | exact h
             | (rename_i e1 e2; cases e2; done)
             | (rename_i e; cases e; done)))

theorem any_agg {P : Program} {W : World} {r : Reach} {base t n : Nat} {v : Value} {fs : Array Field} (h : Value.okWide P W r base t v) (hu : P.underlying t = some (.struct fs)) (hn : P.cellsOf t = n) (ρ : Ren) :
    VRel ρ (.agg (List.replicate n .any)) v := by
  unfold Value.okWide at h
  rw [hu] at h
  obtain ⟨cs, rfl, h1, ts, h2, h3, h4⟩ := h
  simp only [VRel]
  refine LRel.of_get (by simp [h1, hn]) fun i u hi => ?_
  rw [List.getElem?_replicate] at hi
  split at hi
  · rename_i hlt
    simp only [Option.some.injEq] at hi; subst hi
    have hs : i < cs.size := by omega
    refine ⟨cs[i], by simp [hs], ?_⟩
    obtain ⟨q, _, h5⟩ := h4 i cs[i] (by simp [hs])
    simp only [VRel]
    exact one_of_ok h5
  · cases hi

/-- What a row asks, where nothing of the old memory is turned. -/
theorem post_below {H : Type} {enc : TypeId × Value → H} {P : Program} {f : Func} {s : ChangeSpec} {apart fresh handsOn again : Bool} {W W' : World} {args : Array Value} {v : Value} {ds gs : List (DataW H)} {before pa pv : List MemPlace}
    (hW : DataW.Whole enc P f.params.toList s.vars apart W args.toList ds gs before)
    (hres : ∀ (b : Nat) (sp : Nat → Bool) (hd : Bool), DataW.TrodAll enc P W' b sp hd f.resultTypes.toList (v.resultList f.resultTypes.size) (s.fn H (ds ++ gs)).results [])
    (hargs : ∀ sp : Nat → Bool, (∀ p ∈ before, sp p.block = true) → DataW.TrodAll enc P W' 0 sp true f.params.toList args.toList (s.fn H (ds ++ gs)).args pa)
    (hvars : ∀ sp : Nat → Bool, (∀ p ∈ before, sp p.block = true) → DataW.TrodVars enc P W' sp s.vars (s.fn H (ds ++ gs)).vars pv)
    (hps : before = pa ++ pv) (hb : Below W.heap.size W W')
    (hok : ∀ (j : Nat) (t : TypeId) (r : Value), f.resultTypes[j]? = some t → (v.resultList f.resultTypes.size)[j]? = some r → Value.okWide P W' .any 0 t r) :
    s.post enc P f apart fresh handsOn again W args v W' := by
  have lt : ∀ p ∈ before, p.block < W.heap.size := fun p hp => hW.lt p hp
  have old : ∀ p ∈ before, (fun b => decide (b < W.heap.size)) p.block = true := fun p hp => by simpa using lt p hp
  refine ⟨ds, gs, before, [], pa, pv, hW, hres _ _ _, hargs _ old, hvars _ old, hb.frame _, fun _ => ?_⟩
  obtain ⟨_, _, _, _, _, hz, hn⟩ := hW
  refine ⟨hok, _, _, ([] ++ pa) ++ pv, ⟨[] ++ pa, pv, trodAll_append (hargs _ (fun _ _ => rfl)) (hres _ _ _), hvars _ (fun _ _ => rfl), rfl, ?_, ?_⟩, ?_⟩
  · intro b off hp
    have hm : MemPlace.cell b off ∈ before := by rw [hps]; simpa using hp
    rw [hb.frozen (p := ⟨b, off, none⟩) (lt _ hm)]
    exact hz b off hm
  · intro ha
    have := hn ha
    rw [hps] at this
    simpa using this
  · intro p hp _
    rw [hps]
    simpa using hp

end Go.Proofs.YtgihdlhoaimlpaaGreatDoor.AM
