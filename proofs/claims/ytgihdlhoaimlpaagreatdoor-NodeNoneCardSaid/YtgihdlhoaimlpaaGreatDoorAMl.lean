/- The abstract machine: append, copy. -/
import Derived.Test.YtgihdlhoaimlpaaGreatDoorAMk
namespace Go.Proofs.YtgihdlhoaimlpaaGreatDoor.AM
set_option autoImplicit false
set_option linter.unusedSimpArgs false
set_option linter.unusedVariables false

/-- What is appended, or copied: how many elements, and their cells. -/
def srcV (h : H) (sz : Nat) (x : V) : Option (Nat × List V) := match x with
  | .nils => some (0, [])
  | .sl sz' b o l _ => if l = 0 then some (0, []) else if sz' = sz then (match h.get b with
    | some (.row _ cs _ _) => if o + l * sz ≤ cs.length then some (l, (cs.drop o).take (l * sz)) else none
    | _ => none) else none
  | .str s => if sz = 1 then some (s.length, s.map fun (c : Nat) => V.int .u8 (Int.ofNat c)) else none
  | _ => none

theorem srcV_length {h : H} {sz n : Nat} {x : V} {l : List V} (e : srcV h sz x = some (n, l)) : l.length = n * sz := by
  unfold srcV at e
  split at e
  · simp at e; obtain ⟨rfl, rfl⟩ := e; simp
  · split at e
    · simp at e; obtain ⟨rfl, rfl⟩ := e; simp
    · split at e
      · split at e
        · split at e
          · rename_i hl
            simp only [Option.some.injEq, Prod.mk.injEq] at e; obtain ⟨rfl, rfl⟩ := e
            simp; omega
          · cases e
        · cases e
      · cases e
  · split at e
    · simp only [Option.some.injEq, Prod.mk.injEq] at e; obtain ⟨rfl, rfl⟩ := e; simp [*]
    · cases e
  · cases e

theorem load_cells_k {P : Program} {ρ : Ren} {h : H} {w : World} {b o n e : Nat} {cs : List V} {opn ro : Bool} {a : Addr}
    (s : Sim ρ h w) (hb : h.get b = some (.row e cs opn ro)) (p : PRel ρ b o a) (hn : o + n ≤ cs.length) :
    ∃ l' : List Value, (∀ k, (loadCells a n).run P { w with drawn := k } = .ok l'.toArray { w with drawn := k }) ∧ LRel ρ ((cs.drop o).take n) l' ∧ l'.length = n := by
  obtain ⟨W, hW, r⟩ := s.live b _ hb
  obtain rfl := p.addr hW
  obtain ⟨l', h1, h2, h3⟩ := r.cells o n hn
  refine ⟨l', fun k => ?_, h1, h2⟩
  have := run_loadCells_list (P := P) (w := { w with drawn := k }) ⟨W.blk, W.sh + o, none⟩ l' (fun j v hj => by rw [add_eq]; exact h3 j v hj)
  rwa [h2] at this

theorem srcV_ok {P : Program} {ρ : Ren} {h : H} {w : World} (s : Sim ρ h w) {sz n : Nat} {x : V} {x' : Value} {l : List V} (e : srcV h sz x = some (n, l)) (r : VRel ρ x x') :
    (Builtin.lenOf x').run P w = .ok n w ∧ ∃ l' : Array Value, (∀ k, (Builtin.firstCells sz n x').run P { w with drawn := k } = .ok l' { w with drawn := k }) ∧ LRel ρ l l'.toList := by
  unfold srcV at e
  split at e
  · obtain rfl := inv_nils r
    simp at e; obtain ⟨rfl, rfl⟩ := e
    exact ⟨by simp [Builtin.lenOf], #[], fun k => by simp [Builtin.firstCells], by simp [LRel]⟩
  · rename_i sz' b o l0 c
    obtain ⟨a, l', c', rfl, hr⟩ := inv_sl r
    have hl := hr.1; subst hl
    split at e
    · rename_i h0
      simp at e; obtain ⟨rfl, rfl⟩ := e
      subst h0
      exact ⟨by simp [Builtin.lenOf], #[], fun k => by simp [Builtin.firstCells, loadCells, loadCellsFrom], by simp [LRel]⟩
    · rename_i h0
      split at e
      · rename_i hs
        subst hs
        split at e
        · rename_i el cs opn ro hb
          split at e
          · rename_i hle
            simp only [Option.some.injEq, Prod.mk.injEq] at e; obtain ⟨rfl, rfl⟩ := e
            have p : PRel ρ b o a := by
              rcases hr.2.2.2 with h1 | h1
              · have := hr.2.1; omega
              · exact h1.1
            obtain ⟨m, g1, g2, g3⟩ := load_cells_k (P := P) s hb p hle
            exact ⟨by simp [Builtin.lenOf], m.toArray, fun k => by simp [Builtin.firstCells, g1], by simpa using g2⟩
          · cases e
        · cases e
      · cases e
  · rename_i t
    obtain ⟨t', rfl, rfl⟩ := inv_str r
    split at e
    · rename_i hs; subst hs
      simp only [Option.some.injEq, Prod.mk.injEq] at e; obtain ⟨rfl, rfl⟩ := e
      rw [strOf_length]
      refine ⟨by simp [Builtin.lenOf], t'.data.map (fun b => .int .u8 b.toNat), fun k => ?_, ?_⟩
      · simp only [Builtin.firstCells, Sem.run_pure]
        congr 2
        apply Array.ext'
        simp [ByteArray.data_extract]
      · simp only [strOf, Array.toList_map, List.map_map]
        refine LRel.of_get (by simp) fun i v hi => ?_
        simp only [List.getElem?_map, Option.map_eq_some_iff] at hi ⊢
        obtain ⟨u, h1, h2⟩ := hi
        exact ⟨_, ⟨u, h1, rfl⟩, by rw [← h2]; simp [VRel]⟩
    · cases e
  · cases e

/-- append. -/
def appendV (P : Program) (h : H) (t0 t1 : Nat) (s x : V) : Option (V × H) := match elemSl P t0, P.underlying t1 with
  | some _, some (.int _) => none
  | some e, some _ => (match P.info? e, zeroV P e with
    | some i, some z => if z.cells.length = i.size ∧ 0 < i.size then (match srcV h i.size x, s with
      | some (n, new), .nils => if n = 0 then some (.nils, h) else if n < 2 ^ 62 ∧ n * i.bytes ≤ 140737488355328 then some (.sl i.size h.n 0 n n, h.new (.row e new true false)) else none
      | some (n, new), .sl sz b o l c => if sz = i.size then
          if n = 0 then some (.sl sz b o l c, h)
          else if l + n ≤ c then (match h.get b with
            | some (.row e' cs opn false) => if o + (l + n) * sz ≤ cs.length ∧ new.all V.one = true then some (.sl sz b o (l + n) c, h.put b (.row e' (put cs (o + l * sz) new) opn false)) else none
            | _ => none)
          else if l + n < 2 ^ 62 ∧ (l + n) * i.bytes ≤ 140737488355328 then (match h.get b with
            | some (.row e' cs opn ro) => if o + l * sz ≤ cs.length then
                if opn = true ∧ o + c * sz = cs.length then
                  if ro = false ∧ e' = e ∧ new.all V.one = true then some (.sl sz h.n 0 (l + n) (l + n), (h.kill b).new (.row e ((cs.drop o).take (l * sz) ++ new) true false)) else none
                else if opn = false ∨ o + c * sz < cs.length then some (.sl sz h.n 0 (l + n) (l + n), h.new (.row e ((cs.drop o).take (l * sz) ++ new) true false)) else none
              else none
            | _ => none)
          else none
        else none
      | _, _ => none) else none
    | _, _ => none)
  | _, _ => none

section
variable {P : Program} {w : World}

theorem run_append_stay {at0 at1 ty e n l c : Nat} {d : TypeDesc} {i : TypeInfo} {b : Option Addr} {x : Value} {new : Array Value} {w' : World} (ht : P.underlying at0 = some (.slice e)) (hu : P.underlying at1 = some d) (hd : ∀ k, d ≠ .int k)
    (hi : P.info? e = some i) (hn : (Builtin.lenOf x).run P w = .ok n w) (hx : (Builtin.firstCells i.size n x).run P w = .ok new w) (hroom : l + n ≤ c)
    (hst : ∀ a, b = some a → (storeCells (a.add (l * i.size)) new.toList).run P w = .ok () w') (hnone : b = none → w' = w) :
    (Builtin.append_ #[at0, at1] ty #[.slice b l c, x]).run P w = .ok (.slice b (l + n) c) w' := by
  have hz : (d matches .int _) = false := by cases d <;> first | rfl | exact absurd rfl (hd _)
  cases b with
  | none =>
    have := hnone rfl; subst this
    simp [Builtin.append_, run_und ht, run_und hu, hz, sizeOf, typeInfo, hi, hn, hroom, hx]
  | some a =>
    have hs := hst a rfl
    simp [Builtin.append_, run_und ht, run_und hu, hz, sizeOf, typeInfo, hi, hn, hroom, hx, hs]

theorem run_append_grow' {at0 at1 ty e n l c : Nat} {d : TypeDesc} {i : TypeInfo} {z : Value} {b : Option Addr} {x : Value} {old new : Array Value} (ht : P.underlying at0 = some (.slice e)) (hu : P.underlying at1 = some d) (hd : ∀ k, d ≠ .int k)
    (hi : P.info? e = some i) (hz : i.zero = some z) (hn : (Builtin.lenOf x).run P w = .ok n w) (hx : ∀ k, (Builtin.firstCells i.size n x).run P { w with drawn := k } = .ok new { w with drawn := k })
    (hs : ∀ k, (Builtin.firstCells i.size l (.slice b l c)).run P { w with drawn := k } = .ok old { w with drawn := k }) (hg : c < l + n) (hsmall : l + n < 2 ^ 62) (hby : (l + n) * i.bytes ≤ 140737488355328) :
    ∃ cap, l + n ≤ cap ∧ (Builtin.append_ #[at0, at1] ty #[.slice b l c, x]).run P w =
      .ok (.slice (some ⟨w.heap.size, 0, none⟩) (l + n) cap) (w.drew.alloc (.cells (old ++ new ++ Builtin.zeroCells z.cells (cap - (l + n))) e)) := by
  have hzz : (d matches .int _) = false := by cases d <;> first | rfl | exact absurd rfl (hd _)
  have h1 : ¬ l + n ≤ c := by omega
  have h2 : ¬ ((l + n : Nat) : Int) > IntKind.i64.max := by
    have : IntKind.i64.max = 9223372036854775807 := by decide
    rw [this]; omega
  have h3 := growslice_fits hg hby
  have h3' : ¬ Builtin.nextslicecap (l + n) c * i.bytes > 2 ^ 48 := by omega
  have h2' : ¬ (9223372036854775807 < (l : Int) + (n : Int)) := by omega
  refine ⟨(Question.appendCap (l + n) c e).cut (w.tape w.drawn (.appendCap (l + n) c e)), by simp [Question.cut], ?_⟩
  have hx' : (Builtin.firstCells i.size n x).run P w.drew = .ok new w.drew := hx (w.drawn + 1)
  have hs' : (Builtin.firstCells i.size l (.slice b l c)).run P w.drew = .ok old w.drew := hs (w.drawn + 1)
  have hzv : ∀ w, (zeroValue e).run P w = .ok z w := fun w => by simp [zeroValue, typeInfo, hi, hz]
  have hti : ∀ w, (typeInfo e).run P w = .ok i w := fun w => by simp [typeInfo, hi]
  simp [Builtin.append_, run_und ht, run_und hu, hzz, sizeOf, hti, hn, h1, h2', h3', hs', hx', hzv, newRow, Question.forced]
end


theorem Sim.drewN {ρ : Ren} {h : H} {w w' : World} (s : Sim ρ h w) (e : ∃ k, w' = { w with drawn := k }) : Sim ρ h w' := by
  obtain ⟨k, rfl⟩ := e
  exact (Step.drew s k).sim

/-- The new row of an append that grows. -/
theorem grow_row {ρ : Ren} {h : H} {w : World} {e sz need cap : Nat} {cs : List V} {z : Array Value} {old new : Array Value} (s : Sim ρ h w) (hf : ρ h.n = none) (r : LRel ρ cs (old ++ new).toList)
    (hl : cs.length = need * sz) (hz : z.size = sz) (hc : need ≤ cap) :
    ∃ ρ', Step ρ h w ρ' (h.new (.row e cs true false)) (w.drew.alloc (.cells (old ++ new ++ Builtin.zeroCells z (cap - need)) e)) ∧ VRel ρ' (.sl sz h.n 0 need need) (.slice (some ⟨w.heap.size, 0, none⟩) need cap) := by
  have hlen := r.length
  have s' : Sim ρ h w.drew := (Step.drew s _).sim
  have hlen' : (old ++ new).size = cs.length := by simpa using hlen
  have hcz : need * sz + (cap - need) * sz = cap * sz := by rw [← Nat.add_mul]; congr 1; omega
  have hsize : (old ++ new ++ Builtin.zeroCells z (cap - need)).size = cap * sz := by
    rw [Array.size_append, hlen', size_zeroCells, hz, hl, hcz]
  generalize hc0 : old ++ new ++ Builtin.zeroCells z (cap - need) = c0 at *
  have hle : need * sz ≤ cap * sz := Nat.mul_le_mul_right _ hc
  have st := new_row (e := e) (fin := cap * sz) (cs := cs) (c := c0) (fr := (0, 0)) (opn := true) s' hf (by
      have : c0.toList.take cs.length = (old ++ new).toList := by
        rw [← hc0, Array.toList_append (xs := old ++ new), List.take_append_of_le_length (Nat.le_of_eq (hlen'.symm.trans Array.length_toList.symm)), List.take_of_length_le (Nat.le_of_eq (Array.length_toList.trans hlen'))]
      rwa [this]) (by omega) (by omega) (fun h => by cases h) (.inl rfl)
  refine ⟨_, Step.trans (Fresh.left (h₁ := h.new (.row e cs true false)) (fun b h1 h2 => ?_) (Nat.le_refl _)) (Step.drew s (w.drawn + 1)) st, ?_⟩
  · have : b = h.n := by simp at h2; omega
    rw [this]; exact hf
  · simp only [VRel]
    refine ⟨rfl, Nat.le_refl _, hc, .inr ⟨PRel.new, fun W hW => ?_⟩⟩
    simp [upd] at hW; subst hW
    exact ⟨by simp; omega, by simp, fun h => by simp at h; omega⟩

theorem appendV_ok {P : Program} {ρ : Ren} {h h' : H} {w : World} {t0 t1 ty : Nat} {s x : V} {s' x' : Value} {v : V} (e : appendV P h t0 t1 s x = some (v, h')) (sm : Sim ρ h w) (f : Fresh ρ h h')
    (r : VRel ρ s s') (q : VRel ρ x x') : MovesV P (Builtin.append_ #[t0, t1] ty #[s', x']) w ρ h v h' := by
  unfold appendV at e
  split at e
  · cases e
  · rename_i el d hk0 hel hu
    have hk : ∀ k, d ≠ .int k := fun k h => hk0 k h
    split at e
    · rename_i i z hi hz
      obtain ⟨z', hz1⟩ : ∃ z', i.zero = some z' := by
        unfold zeroV at hz; rw [hi] at hz; simp only at hz
        cases hzz : i.zero with
        | none => rw [hzz] at hz; cases hz
        | some z' => exact ⟨z', rfl⟩
      have hzr : VRel ρ z z' := by
        unfold zeroV at hz; rw [hi] at hz; simp only [hz1] at hz
        exact V.of_rel ρ z' z hz
      split at e
      · rename_i hsz
        obtain ⟨hs1, hs2⟩ := hsz
        have hzl := (cells_rel hzr).length
        rw [Array.length_toList, hs1] at hzl
        split at e
        · rename_i n new hsrc
          obtain rfl := inv_nils r
          obtain ⟨g1, new', g2, g3⟩ := srcV_ok (P := P) sm hsrc q
          have hnl := srcV_length hsrc
          split at e
          · rename_i hn; subst hn
            simp only [Option.some.injEq, Prod.mk.injEq] at e; obtain ⟨rfl, rfl⟩ := e
            refine ⟨ρ, w, .slice none 0 0, Step.refl sm, ?_, by simp [VRel]⟩
            exact run_append_stay (elemSl_und hel) hu hk hi g1 (g2 w.drawn) (Nat.le_refl _) (fun a h => by cases h) (fun _ => rfl)
          · rename_i hn
            split at e
            · rename_i hc
              simp only [Option.some.injEq, Prod.mk.injEq] at e; obtain ⟨rfl, rfl⟩ := e
              obtain ⟨cap, hcap, hrun⟩ := run_append_grow' (P := P) (w := w) (ty := ty) (l := 0) (c := 0) (b := none) (old := #[]) (elemSl_und hel) hu hk hi hz1 g1
                g2
                (fun k => by simp [Builtin.firstCells]) (by omega) (by omega) (by simpa using hc.2)
              have hf := f.one (by simp)
              obtain ⟨ρ', st, vr⟩ := grow_row (e := el) (sz := i.size) (need := n) (cap := cap) (old := #[]) (new := new') sm hf (by simpa using g3) hnl hzl (by omega)
              refine ⟨ρ', _, _, st, ?_, vr⟩
              simpa using hrun
            · cases e
        · rename_i n new sz b o l c hsrc
          obtain ⟨a, l', c', rfl, hr⟩ := inv_sl r
          have hl := hr.1; subst hl
          obtain ⟨g1, new', g2, g3⟩ := srcV_ok (P := P) sm hsrc q
          have hnl := srcV_length hsrc
          have hnl' : new'.size = n * i.size := by have := g3.length; rw [Array.length_toList] at this; omega
          split at e
          · rename_i hsz; subst hsz
            split at e
            · rename_i hn; subst hn
              simp only [Option.some.injEq, Prod.mk.injEq] at e; obtain ⟨rfl, rfl⟩ := e
              have hnil : new'.toList = [] := by
                have : new'.size = 0 := by omega
                simpa using this
              refine ⟨ρ, w, .slice (some a) l' c', Step.refl sm, ?_, by simp only [VRel]; exact hr⟩
              exact run_append_stay (elemSl_und hel) hu hk hi g1 (g2 w.drawn) (by have := hr.2.1; have := hr.2.2.1; omega) (fun a' h => by rw [hnil]; rfl) (fun h => by cases h)
            · rename_i hn
              have hcc := hr.2.2.1
              split at e
              · rename_i hroom
                split at e
                · rename_i e' cs opn hb
                  split at e
                  · rename_i hfit
                    simp only [Option.some.injEq, Prod.mk.injEq] at e; obtain ⟨rfl, rfl⟩ := e
                    have hpc : PRel ρ b o a ∧ CRel ρ i.size b o c c' := by
                      rcases hr.2.2.2 with h1 | h1
                      · omega
                      · exact h1
                    have hmul : (l' + n) * i.size = l' * i.size + n * i.size := Nat.add_mul _ _ _
                    obtain ⟨w', h1, h2⟩ := store_cells (P := P) sm hb (hpc.1.add (n := l' * i.size)) (l := new) (by rw [hnl]; omega) g3 hfit.2
                    refine ⟨ρ, w', .slice (some a) (l' + n) c', h2, ?_, by simp only [VRel]; exact ⟨rfl, hroom, hcc, .inr hpc⟩⟩
                    exact run_append_stay (elemSl_und hel) hu hk hi g1 (g2 w.drawn) (by omega) (fun a' h => by simp only [Option.some.injEq] at h; subst h; exact h1) (fun h => by cases h)
                  · cases e
                · cases e
              · rename_i hroom
                split at e
                · rename_i hbig
                  split at e
                  · rename_i e' cs opn ro hb
                    split at e
                    · rename_i hold
                      -- the old cells
                      have oldc : ∃ old : Array Value, (∀ k, (Builtin.firstCells i.size l' (.slice (some a) l' c')).run P { w with drawn := k } = .ok old { w with drawn := k }) ∧ LRel ρ ((cs.drop o).take (l' * i.size)) old.toList := by
                        rcases hr.2.2.2 with h1 | h1
                        · have : l' = 0 := by have := hr.2.1; omega
                          subst this
                          exact ⟨#[], fun k => by simp [Builtin.firstCells, loadCells, loadCellsFrom], by simp [LRel]⟩
                        · obtain ⟨m, f1, f2, f3⟩ := load_cells_k (P := P) sm hb h1.1 hold
                          exact ⟨m.toArray, fun k => by simp [Builtin.firstCells, f1], by simpa using f2⟩
                      obtain ⟨old, o1, o2⟩ := oldc
                      have hol : ((cs.drop o).take (l' * i.size)).length = l' * i.size := by simp; omega
                      have hcat : LRel ρ ((cs.drop o).take (l' * i.size) ++ new) (old ++ new').toList := by
                        rw [Array.toList_append]; exact o2.append g3
                      have hcl : ((cs.drop o).take (l' * i.size) ++ new).length = (l' + n) * i.size := by rw [List.length_append, hol, hnl, Nat.add_mul]
                      -- the model makes a new row
                      have grow : ∀ {ρ₁ : Ren} {h₁ : H}, Sim ρ₁ h₁ w → ρ₁ h₁.n = none → Ext ρ ρ₁ → c' < l' + n → ∃ ρ' w' v', Step ρ₁ h₁ w ρ' (h₁.new (.row el ((cs.drop o).take (l' * i.size) ++ new) true false)) w' ∧
                          (Builtin.append_ #[t0, t1] ty #[.slice (some a) l' c', x']).run P w = .ok v' w' ∧ VRel ρ' (.sl i.size h₁.n 0 (l' + n) (l' + n)) v' := fun sm₁ hf₁ hx₁ hlt => by
                        obtain ⟨cap, hcap, hrun⟩ := run_append_grow' (P := P) (w := w) (ty := ty) (elemSl_und hel) hu hk hi hz1 g1 g2 o1 hlt hbig.1 hbig.2
                        obtain ⟨ρ', st, vr⟩ := grow_row (e := el) (sz := i.size) (need := l' + n) (cap := cap) (old := old) (new := new') sm₁ hf₁ (hcat.mono hx₁) hcl hzl hcap
                        exact ⟨ρ', _, _, st, hrun, vr⟩
                      split at e
                      · rename_i hopen
                        split at e
                        · rename_i hro
                          simp only [Option.some.injEq, Prod.mk.injEq] at e; obtain ⟨rfl, rfl⟩ := e
                          obtain ⟨rfl, rfl, hone⟩ := hro
                          have hf : ρ h.n = none := f.one (by simp)
                          have hbn : b ≠ h.n := fun e => by
                            obtain ⟨W, hW, _⟩ := sm.live b _ hb
                            rw [e, hf] at hW; cases hW
                          by_cases hin : l' + n ≤ c'
                          · -- it grows where it lies
                            obtain ⟨W, hW, c0, fr, k1, k2, k3, k4, k5, k6, k7⟩ := sm.live b _ hb
                            have hpc : PRel ρ b o a ∧ CRel ρ i.size b o c c' := by
                              rcases hr.2.2.2 with h1 | h1
                              · omega
                              · exact h1
                            obtain rfl := hpc.1.addr hW
                            obtain ⟨q1, q2, q3⟩ := hpc.2 W hW
                            have hcm : (l' + n) * i.size ≤ c' * i.size := Nat.mul_le_mul_right _ hin
                            have hmul : (l' + n) * i.size = l' * i.size + n * i.size := Nat.add_mul _ _ _
                            have hst : (storeCells ((⟨W.blk, W.sh + o, none⟩ : Addr).add (l' * i.size)) new'.toList).run P w = .ok () (w.setCells W.blk (W.sh + o + l' * i.size) new'.toList) := by
                              have := run_storeCells_cells (P := P) W.blk (W.sh + o + l' * i.size) new'.toList 0 w (fun j hj => by
                                  rw [Array.length_toList, hnl'] at hj
                                  simp only [World.cell?, k1]
                                  have : W.sh + o + l' * i.size + j < c0.size := by omega
                                  simp [this]) (fun j hj => by
                                  rw [Array.length_toList, hnl'] at hj
                                  simp only [World.frozen?, k1]
                                  have := nofr (i := W.sh + o + l' * i.size + 0 + j) (k7 rfl) (by omega)
                                  simp; omega) (one_of_rels g3 hone)
                              rw [add_eq]
                              simpa using this
                            obtain ⟨z1, z2, z3, z4⟩ := setCells_same W.blk new'.toList (W.sh + o + l' * i.size) w
                            have hE : Ext ρ (upd (dead ρ b) h.n (some (some ⟨W.blk, W.sh + o, (l' + n) * i.size, W.fin⟩))) := (dead_ext ρ b).trans (upd_ext (by simp [dead, upd, Ne.symm hbn, hf]))
                            refine ⟨_, _, .slice (some ⟨W.blk, W.sh + o, none⟩) (l' + n) c', step_move (W' := ⟨W.blk, W.sh + o, (l' + n) * i.size, W.fin⟩) sm hb rfl hW hf rfl z1 z2 z3 z4 (fun k hk => heap_setCells_ne _ _ hk _ _ _) ?_, ?_, ?_⟩
                            · refine ⟨writeAt c0 (W.sh + o + l' * i.size) new'.toList, fr, heap_setCells _ _ _ _ _ _ _ k1, hcl, by simp only; omega, by rw [size_writeAt]; exact k4, (fun h => by cases h), fun j v hj => ?_, fun _ => k7 rfl⟩
                              rw [get_writeAt, Array.length_toList, hnl']
                              by_cases hj' : j < l' * i.size
                              · rw [if_neg (by simp only; omega)]
                                rw [List.getElem?_append_left (by omega), List.getElem?_take, if_pos hj', List.getElem?_drop] at hj
                                obtain ⟨v', y1, y2⟩ := k6 _ v hj
                                exact ⟨v', by rw [← y1]; congr 1; simp only; omega, y2.mono hE _ _⟩
                              · have hjl : j < (l' + n) * i.size := by
                                  have := (List.getElem?_eq_some_iff.1 hj).1
                                  rwa [hcl] at this
                                rw [if_pos (by simp only; omega)]
                                rw [List.getElem?_append_right (by omega), hol] at hj
                                obtain ⟨v', y1, y2⟩ := g3.get _ v hj
                                exact ⟨v', by rw [← y1]; congr 1; simp only; omega, y2.mono hE _ _⟩
                            · exact run_append_stay (elemSl_und hel) hu hk hi g1 (g2 w.drawn) hin (fun a' h => by simp only [Option.some.injEq] at h; subst h; exact hst) (fun h => by cases h)
                            · simp only [VRel]
                              refine ⟨rfl, Nat.le_refl _, hin, .inr ⟨⟨rfl, .inr ⟨⟨W.blk, W.sh + o, (l' + n) * i.size, W.fin⟩, by simp [upd], rfl, rfl⟩⟩, fun U hU => ?_⟩⟩
                              simp [upd] at hU; subst hU
                              exact ⟨by simp, by simp only; omega, fun h => by simp at h⟩
                          · have sk := step_kill sm (b := b) (by rw [hb]; simp)
                            have hf' : dead ρ b h.n = none := by simp [dead, upd, Ne.symm hbn, hf]
                            obtain ⟨ρ', w', v', st, hrun, vr⟩ := grow (h₁ := h.kill b) sk.sim hf' (dead_ext ρ b) (by omega)
                            exact ⟨ρ', w', v', Step.trans f sk st, hrun, vr⟩
                        · cases e
                      · rename_i hnopen
                        split at e
                        · rename_i hcl2
                          simp only [Option.some.injEq, Prod.mk.injEq] at e; obtain ⟨rfl, rfl⟩ := e
                          have hlt : c' < l' + n := by
                            obtain ⟨W, hW, c0, fr, k1, k2, k3, k4, k5, k6, k7⟩ := sm.live b _ hb
                            rcases hr.2.2.2 with h1 | h1
                            · omega
                            · obtain ⟨q1, q2, q3⟩ := h1.2 W hW
                              by_cases hsz : o + c * i.size < W.size
                              · rw [q3 hsz]; omega
                              · have : opn = false := by
                                  rcases hcl2 with h2 | h2
                                  · exact h2
                                  · omega
                                have hfin := k5 this
                                have hcc' : c' * i.size ≤ c * i.size := by omega
                                have := Nat.le_of_mul_le_mul_right hcc' hs2
                                omega
                          exact grow sm (f.one (by simp)) (Ext.refl ρ) hlt
                        · cases e
                    · cases e
                  · cases e
                · cases e
          · cases e
        · cases e
      · cases e
    · cases e
  · cases e

end Go.Proofs.YtgihdlhoaimlpaaGreatDoor.AM
