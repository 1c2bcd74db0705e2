/- The abstract machine: copy, unsafe.String, unsafe.SliceData. -/
import Derived.Test.YtgihdlhoaimlpaaGreatDoorAMr
import Derived.Lib.UnsafeStr
namespace Go.Proofs.YtgihdlhoaimlpaaGreatDoor.AM
set_option autoImplicit false
set_option linter.unusedSimpArgs false
set_option linter.unusedVariables false

section
variable {P : Program} {ρ : Ren} {h h' : H} {w w' : World}

/-- A block that is written goes out of sight. -/
theorem step_killw {b : Nat} {x : Blk} {W : Win} (s : Sim ρ h w) (hb : h.get b = some x) (hx : x.ro = false) (hW : ρ b = some (some W))
    (hs : w'.heap.size = w.heap.size) (ht : w'.tape = w.tape) (ho : w'.os = w.os) (hp : w'.output = w.output) (hk : ∀ k, k ≠ W.blk → w'.heap[k]? = w.heap[k]?) :
    Step ρ h w (dead ρ b) (h.kill b) w' := by
  have hne : h.get b ≠ none := by rw [hb]; simp
  have st := step_kill s hne
  refine { st with sim := ?_, size := Nat.le_of_eq hs.symm, tape := ht, os := ho, output := hp, keep := fun k hk' hm => hk k fun e => hm ⟨b, x, W, hb, hx, hW, e.symm⟩ }
  refine ⟨fun c y hc => ?_, st.sim.inj⟩
  rw [H.get_kill] at hc
  split at hc
  · cases hc
  · rename_i e
    obtain ⟨U, h1, h2⟩ := s.live c y hc
    refine ⟨U, by simp [dead, upd, e, h1], h2.mono (dead_ext _ _) (hk _ fun e' => ?_)⟩
    rcases s.inj c b y x U W hc hb h1 hW e' with h3 | ⟨_, h3⟩
    · exact e h3
    · rw [hx] at h3; cases h3

theorem byte_cells : ∀ {l : List Nat} {bs : List UInt8}, bs.map (·.toNat) = l → LRel ρ (l.map fun x => V.int .u8 (Int.ofNat x)) (bs.map fun b => Value.int .u8 b.toNat)
  | [], [], _ => by simp [LRel]
  | x :: l, b :: bs, e => by
    simp only [List.map_cons, List.cons.injEq] at e
    obtain ⟨rfl, e⟩ := e
    simp only [List.map_cons, LRel]
    exact ⟨by simp [VRel], byte_cells e⟩
  | [], _ :: _, e => by simp at e
  | _ :: _, [], e => by simp at e

theorem lenL_ok {v : V} {v' : Value} {m : Nat} (e : lenL v = some m) (r : VRel ρ v v') : (Builtin.lenOf v').run P w = .ok m w := by
  cases v <;> simp only [lenL, Option.some.injEq] at e <;> first | (cases e; done) | skip
  · obtain ⟨s', rfl, hs⟩ := inv_str r
    subst e; subst hs
    simp [Builtin.lenOf, strOf_length]
  · obtain ⟨a, l', c', rfl, hr⟩ := inv_sl r
    subst e
    simp [Builtin.lenOf, hr.1]
  · obtain rfl := inv_nils r
    subst e
    simp [Builtin.lenOf]

theorem srcL_ok (s : Sim ρ h w) {sz n : Nat} {v : V} {v' : Value} {l : List V} (e : srcL h sz n v = some l) (r : VRel ρ v v') (hm : ∀ m, lenL v = some m → n ≤ m) :
    ∃ l', (Builtin.firstCells sz n v').run P w = .ok l'.toArray w ∧ LRel ρ l l' := by
  unfold srcL at e
  split at e
  · rename_i s0
    obtain ⟨s', rfl, hs⟩ := inv_str r
    split at e
    · rename_i h1; subst h1
      simp only [Option.some.injEq] at e; subst e
      refine ⟨((s'.extract 0 n).data.toList.map fun b => Value.int .u8 b.toNat), ?_, ?_⟩
      · simp only [Builtin.firstCells, Sem.run_pure]
        congr 1
        apply Array.ext'
        simp
      · refine byte_cells ?_
        rw [← hs]
        simp [strOf]
    · cases e
  · rename_i sz' b o l0 c
    obtain ⟨a, l', c', rfl, hr⟩ := inv_sl r
    split at e
    · rename_i h1; subst h1
      split at e
      · rename_i e' cs opn ro hb
        split at e
        · rename_i hle
          simp only [Option.some.injEq] at e; subst e
          by_cases h0 : n * sz' = 0
          · refine ⟨[], ?_, by simp [h0, LRel]⟩
            simp [Builtin.firstCells, h0, loadCells, loadCellsFrom]
          · have hp : PRel ρ b o a := by
              rcases hr.2.2.2 with h1 | h1
              · exfalso
                have h2 := hm l0 rfl
                have h3 := hr.2.1
                have : n = 0 := by omega
                subst this
                exact h0 (Nat.zero_mul _)
              · exact h1.1
            obtain ⟨l2, g1, g2, g3⟩ := load_cells (P := P) s hb hp hle
            exact ⟨l2, by simp [Builtin.firstCells, g1], g2⟩
        · cases e
      · cases e
    · cases e
  · cases e

theorem copyV_ok {t0 t1 ty : Nat} {x y : V} {x' y' : Value} {v : V} (e : copyV P h t0 x y = some (v, h')) (s : Sim ρ h w) (r : VRel ρ x x') (q : VRel ρ y y') :
    MovesV P (Builtin.copy_ #[t0, t1] ty #[x', y']) w ρ h v h' := by
  unfold copyV at e
  split at e
  · rename_i el m sz b o l c he hm
    obtain ⟨a, l', c', rfl, hr⟩ := inv_sl r
    have hl := lenL_ok (P := P) (w := w) hm q
    have hrl := hr.1; subst hrl
    split at e
    · rename_i hsz
      split at e
      · rename_i e' cs opn hb
        split at e
        · rename_i src hsrc
          split at e
          · rename_i hc
            obtain ⟨c1, c2, c3, c4⟩ := hc
            simp only [Option.some.injEq, Prod.mk.injEq] at e; obtain ⟨rfl, rfl⟩ := e
            obtain ⟨src', g1, g2⟩ := srcL_ok (P := P) s hsrc q (fun m' hm' => by
              rw [hm] at hm'; simp only [Option.some.injEq] at hm'; subst hm'; exact Nat.min_le_left _ _)
            have hg2 := g2.length
            have hdef : Builtin.copy_ #[t0, t1] ty #[.slice (some a) l' c', y'] = (do
                let .slice elem ← underlying t0 | stuck "copy: slice type expected"
                let n := Nat.min (← Builtin.lenOf y') l'
                let cells ← Builtin.firstCells (← sizeOf elem) n y'
                storeCells a cells.toList
                pure (goInt n)) := rfl
            by_cases h0 : src = []
            · subst h0
              have : src' = [] := by simpa using hg2
              subst this
              refine ⟨ρ, w, goInt (Nat.min m l'), ?_, ?_, by simp [VRel, goInt]⟩
              · refine Step.congr (Step.refl s) (fun b' => ?_) rfl
                rw [H.get_put]
                split
                · rename_i hbb; subst hbb; rw [hb]; simp [put]
                · rfl
              · rw [hdef]
                simp only [Sem.run_bind, run_und (elemSl_und he), Result.andThen_ok, hl, run_szOf hsz, g1]
                simp [storeCells]
            · have hp : PRel ρ b o a := by
                rcases hr.2.2.2 with h1 | h1
                · exfalso
                  have h3 := hr.2.1
                  have h4 : l' = 0 := by omega
                  have : Nat.min m l' = 0 := by rw [h4]; exact Nat.min_zero _
                  rw [this] at c3
                  exact h0 (by simpa using c3)
                · exact h1.1
              obtain ⟨w', k1, k2⟩ := store_cells (P := P) s hb hp c1 g2 c2
              refine ⟨ρ, w', goInt (Nat.min m l'), k2, ?_, by simp [VRel, goInt]⟩
              rw [hdef]
              simp only [Sem.run_bind, run_und (elemSl_und he), Result.andThen_ok, hl, run_szOf hsz, g1, k1, Sem.run_pure]
          · cases e
        · cases e
      · cases e
    · cases e
  · cases e

theorem liesAt_bytes_at {e : TypeId} (hc : P.cellsOf e = 1) (count off n : Nat) (hn : off + n ≤ count) : liesAt P P.depth e count off e n = true := by
  have hd : P.depth = (2 * (P.types.size + Made.depth) + 1) + 1 := rfl
  rw [hd]
  simp only [liesAt, Bool.or_eq_true]
  left
  rw [hd]
  simp [rowAt, hc, hn, sameLayout, Nat.mod_one]

theorem unStrV_ok {t0 t1 ty : Nat} {x n : V} {x' n' : Value} {v : V} (e : unStrV P h t0 x n = some (v, h')) (s : Sim ρ h w) (r : VRel ρ x x') (q : VRel ρ n n') :
    MovesV P (Builtin.unsafeString_ #[t0, t1] ty #[x', n']) w ρ h v h' := by
  unfold unStrV at e
  split at e
  · rename_i el k n b o hu
    obtain ⟨a, rfl, hp⟩ := inv_ptr r
    obtain rfl := inv_int q
    split at e
    · rename_i e' cs opn hul hb
      split at e
      · rename_i hc
        obtain ⟨c1, c2, c3, c4, c5⟩ := hc
        split at e
        · rename_i l hl
          simp only [Option.some.injEq, Prod.mk.injEq] at e; obtain ⟨rfl, rfl⟩ := e
          subst c3
          obtain ⟨W, hW, br⟩ := s.live b _ hb
          have br' := br
          obtain ⟨c, fr, g1, g2, g3, g4, g5, g6, g7⟩ := br
          obtain rfl := hp.addr hW
          obtain ⟨l2, k2, k3, k4⟩ := br'.cells o n.toNat c2
          obtain ⟨bs, m1, m2⟩ := byteL_rel hl k2
          subst m2
          have hbl : bs.length = n.toNat := by simpa using k3
          have hcell : ∀ j x, bs[j]? = some x → w.cell? ((⟨W.blk, W.sh + o, none⟩ : Addr).add j) = some (.int .u8 x.toNat) := fun j x hj => by
            rw [add_eq]
            exact k4 j _ (by simp [hj])
          have hlb := Lib.run_loadBytes (P := P) w bs ⟨W.blk, W.sh + o, none⟩ .empty hcell
          have hsh : w.shape? W.blk = some (e', c.size) := by simp [World.shape?, g1]
          have hlies := liesAt_bytes_at (P := P) c4 (c.size / P.cellsOf e') (W.sh + o) n.toNat (by rw [c4]; omega)
          have hdef : Builtin.unsafeString_ #[t0, t1] ty #[.pointer (some ⟨W.blk, W.sh + o, none⟩), .int k n] = (do
              let n ← asInt (.int k n)
              if n < 0 then runtimePanic (.error "unsafe.String: len out of range")
              if n > IntKind.i64.max then unsupported (.unsafePointer "String: a length above the largest int")
              if n = 0 then pure (.string .empty)
              else if ← variablesAt ⟨W.blk, W.sh + o, none⟩ (← elemOf t0) n.toNat then do
                let s ← loadBytes ⟨W.blk, W.sh + o, none⟩ .empty n.toNat
                freeze ⟨W.blk, W.sh + o, none⟩ n.toNat
                pure (.string s)
              else unsupported (.unsafePointer "String: not so many bytes at ptr")) := rfl
          refine ⟨dead ρ b, w.freeze ⟨W.blk, W.sh + o, none⟩ n.toNat, .string ⟨bs.toArray⟩, ?_, ?_, by simp [VRel, strOf, m1]⟩
          · refine step_killw s hb rfl hW ?_ ?_ ?_ ?_ (fun k' hk' => ?_)
            all_goals (unfold World.freeze; split <;> first | rfl | simp [Array.getElem?_modify, Ne.symm hk'] | simp)
          · rw [hdef]
            have h1 : ¬ n < 0 := by omega
            have h2 : ¬ (9223372036854775807 : Int) < n := by omega
            have h3 : ¬ n = 0 := by omega
            have hmax : IntKind.i64.max = 9223372036854775807 := rfl
            rw [hbl] at hlb
            simp [asInt, asIntOf, hmax, h1, h2, h3, variablesAt, hsh, elemOf, run_underlying hu, hlies, hlb]
        · cases e
      · cases e
    · cases e
  · cases e

theorem slDataV_ok {t0 ty : Nat} {x v : V} {x' : Value} (e : slDataV x = some v) (r : VRel ρ x x') : GivesV P (Builtin.unsafeSliceData_ #[t0] ty #[x']) w ρ v := by
  unfold slDataV at e
  split at e
  · obtain rfl := inv_nils r
    simp only [Option.some.injEq] at e; subst e
    exact ⟨.pointer none, rfl, by simp [VRel]⟩
  · rename_i sz b o l c
    simp only [Option.some.injEq] at e; subst e
    obtain ⟨a, l', c', rfl, hr⟩ := inv_sl r
    have hc := hr.2.2.1
    refine ⟨.pointer (some a), Lib.run_unsafeSliceData_row w _ _ _ _ _ (by omega), ?_⟩
    rcases hr.2.2.2 with h1 | h1
    · omega
    · simp only [VRel]; exact h1.1
  · cases e

end
end Go.Proofs.YtgihdlhoaimlpaaGreatDoor.AM
