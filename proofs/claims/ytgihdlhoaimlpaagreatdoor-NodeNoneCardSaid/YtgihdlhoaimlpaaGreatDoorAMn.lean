/- The abstract machine: maps written; walks. -/
import Derived.Test.YtgihdlhoaimlpaaGreatDoorAMm
namespace Go.Proofs.YtgihdlhoaimlpaaGreatDoor.AM
set_option autoImplicit false
set_option linter.unusedSimpArgs false
set_option linter.unusedVariables false

theorem EntsRel.of_get {ρ : Ren} : ∀ {l : List (V × V × Nat)} {l' : List MapEntry}, l'.length = l.length → (∀ (i : Nat) (e : V × V × Nat), l[i]? = some e → ∃ e', l'[i]? = some e' ∧ VRel ρ e.1 e'.key ∧ VRel ρ e.2.1 e'.val ∧ e'.born = e.2.2) → EntsRel ρ l l'
  | [], [], _, _ => by simp [EntsRel]
  | (a, b, c) :: l, a' :: l', hl, h => by
    simp only [EntsRel]
    obtain ⟨e', h1, h2, h3, h4⟩ := h 0 (a, b, c) (by simp)
    simp at h1; subst h1
    exact ⟨h2, h3, h4, EntsRel.of_get (by simpa using hl) fun i v hi => by simpa using h (i + 1) v (by simpa using hi)⟩
  | [], _ :: _, hl, _ => by simp at hl
  | _ :: _, [], hl, _ => by simp at hl

theorem sameBits_plain {ρ : Ren} {k e : V} {k' e' : Value} (h : sameV k e = some true) (r : VRel ρ k k') (q : VRel ρ e e') (n : Nat) : Instr.sameBits n e' k' = true := by
  unfold sameV at h
  split at h
  · obtain rfl := inv_int r; obtain rfl := inv_int q
    split at h
    · rename_i hk; subst hk
      simp only [Option.some.injEq, beq_iff_eq] at h; subst h
      cases n <;> simp [Instr.sameBits]
    · cases h
  · obtain ⟨s, rfl, rfl⟩ := inv_str r; obtain ⟨s', rfl, rfl⟩ := inv_str q
    simp only [Option.some.injEq, eqL_iff] at h
    have := strOf_inj h; subst this
    cases n <;> simp [Instr.sameBits, ba_beq]
  · obtain rfl := inv_bool r; obtain rfl := inv_bool q
    simp only [Option.some.injEq, beq_iff_eq] at h; subst h
    cases n <;> simp [Instr.sameBits]
  · cases h

/-- A map's block is written. -/
theorem put_map {P : Program} {ρ : Ren} {h : H} {w : World} {b r clock clock' : Nat} {es es1 : List (V × V × Nat)} {es' : Array MapEntry} (s : Sim ρ h w) (hb : h.get b = some (.map es clock))
    (q : ρ b = some none ∨ ∃ W, ρ b = some (some W) ∧ r = W.blk) (e : EntsRel ρ es1 es'.toList) :
    ∃ w', (setObj r (.map es' clock')).run P w = .ok () w' ∧ Step ρ h w ρ (h.put b (.map es1 clock')) w' := by
  obtain ⟨W, hW, h0, es0, h1, h2⟩ := s.live b _ hb
  have hr : r = W.blk := by
    rcases q with q | ⟨U, q, q'⟩
    · rw [hW] at q; simp at q
    · rw [hW] at q; simp at q; subst q; exact q'
  subst hr
  have hlt : W.blk < w.heap.size := (Array.getElem?_eq_some_iff.1 h1).1
  refine ⟨{ w with heap := w.heap.setIfInBounds W.blk (.map es' clock') }, by simp [setObj, Sem.run, h1], ?_⟩
  refine step_put s hb rfl hW (by simp) rfl rfl rfl (fun k hk => by simp [Array.getElem?_setIfInBounds_ne (Ne.symm hk)]) ⟨h0, es', ?_, e⟩
  simp [hlt]

def updV (P : Program) (h : H) (t : Nat) (m k v : V) : Option H := match mapTy P t, m with
  | some (kt, _), .map b => if keyFits P kt k then (match h.get b with
    | some (.map es clock) => (match findV k es 0 with
      | some (some y) => some (h.put b (.map (es.set y.1 (k, v, y.2.2.2)) clock))
      | some none => some (h.put b (.map (es ++ [(k, v, clock)]) (clock + 1)))
      | none => none)
    | _ => none) else none
  | _, _ => none

theorem updV_ok {P : Program} {ρ : Ren} {h h' : H} {w : World} {t : Nat} {m k v : V} {m' k' v' : Value} (e : updV P h t m k v = some h') (s : Sim ρ h w) (r : VRel ρ m m') (q : VRel ρ k k') (z : VRel ρ v v') :
    MovesU P (Instr.mapUpdate t m' k' v') w ρ h h' := by
  unfold updV at e
  split at e
  · rename_i kt et b ht
    split at e
    · rename_i hk
      obtain ⟨r', rfl, q'⟩ := inv_map r
      split at e
      · rename_i es clock hb
        obtain ⟨es', g1, g2⟩ := s.mapAt hb q'
        have hck := checkKey_plain (P := P) (w := w) (keyFits_plain hk) false k'
        split at e
        · rename_i y hf
          simp only [Option.some.injEq] at e; subst e
          obtain ⟨f1, f2⟩ := findKey_ok (P := P) (w := w) hk hf q g2
          obtain ⟨y1, y2⟩ := f2 y rfl
          obtain ⟨e', k1, k2, k3, k4⟩ := g2.get _ _ y1
          have hsb := sameBits_plain y2 q k2 10000
          have hrel : EntsRel ρ (es.set y.1 (k, v, y.2.2.2)) (es'.modify y.1 fun e => { e with key := k', val := v' }).toList := by
            refine EntsRel.of_get (by simp [g2.length]) fun i u hi => ?_
            have k1a : es'[y.1]? = some e' := by simpa using k1
            rw [List.getElem?_set] at hi
            simp only [Array.getElem?_toList, Array.getElem?_modify]
            split at hi
            · rename_i hyi; subst hyi
              split at hi
              · simp at hi; subst hi
                exact ⟨{ e' with key := k', val := v' }, by simp [k1a], q, z, k4⟩
              · cases hi
            · rename_i hyi
              obtain ⟨e2, j1, j2, j3, j4⟩ := g2.get _ _ hi
              exact ⟨e2, by simpa [hyi] using j1, j2, j3, j4⟩
          obtain ⟨w', p1, p2⟩ := put_map (P := P) (clock' := clock) s hb q' hrel
          refine ⟨ρ, w', p2, ?_⟩
          have k1a : es'[y.1]? = some e' := by simpa using k1
          have hrun : (Instr.findKey kt k' es'.toList).run P w = .ok (some (y.1, e'.val)) w := by rw [f1]; simp only [Option.bind_some, k1, Option.map_some]
          simp [Instr.mapUpdate, run_und (mapTy_und ht), getObj, Sem.run, g1, hck, hrun, Instr.keyThatStays, k1a, hsb, p1]
        · rename_i hf
          simp only [Option.some.injEq] at e; subst e
          obtain ⟨f1, f2⟩ := findKey_ok (P := P) (w := w) hk hf q g2
          have hrel : EntsRel ρ (es ++ [(k, v, clock)]) (es'.push { key := k', val := v', born := clock }).toList := by
            have hl := g2.length
            rw [Array.length_toList] at hl
            refine EntsRel.of_get (by simp [hl]) fun i u hi => ?_
            by_cases hi' : i < es.length
            · rw [List.getElem?_append_left hi'] at hi
              obtain ⟨e2, j1, j2, j3, j4⟩ := g2.get _ _ hi
              exact ⟨e2, by rw [Array.toList_push, List.getElem?_append_left (by rw [Array.length_toList]; omega)]; exact j1, j2, j3, j4⟩
            · rw [List.getElem?_append_right (by omega)] at hi
              have : i - es.length = 0 := by
                have := (List.getElem?_eq_some_iff.1 hi).1
                simp at this; omega
              rw [this] at hi; simp at hi; subst hi
              exact ⟨{ key := k', val := v', born := clock }, by rw [Array.toList_push, List.getElem?_append_right (by rw [Array.length_toList]; omega), Array.length_toList, hl, this]; rfl, q, z, rfl⟩
          obtain ⟨w', p1, p2⟩ := put_map (P := P) (clock' := clock + 1) s hb q' hrel
          refine ⟨ρ, w', p2, ?_⟩
          have hrun : (Instr.findKey kt k' es'.toList).run P w = .ok none w := by rw [f1]; rfl
          simp [Instr.mapUpdate, run_und (mapTy_und ht), getObj, Sem.run, g1, hck, hrun, p1]
        · cases e
      · cases e
    · cases e
  · cases e

def delV (P : Program) (h : H) (t : Nat) (m k : V) : Option H := match mapTy P t, m with
  | some (kt, _), .nilm => if keyFits P kt k then some h else none
  | some (kt, _), .map b => if keyFits P kt k then (match h.get b with
    | some (.map es clock) => (match findV k es 0 with
      | some (some y) => some (h.put b (.map (es.eraseIdx y.1) clock))
      | some none => some (h.put b (.map es clock))
      | none => none)
    | _ => none) else none
  | _, _ => none

theorem delV_ok {P : Program} {ρ : Ren} {h h' : H} {w : World} {t ty t1 : Nat} {m k : V} {m' k' : Value} (e : delV P h t m k = some h') (s : Sim ρ h w) (r : VRel ρ m m') (q : VRel ρ k k') :
    MovesV P (Builtin.delete_ #[t, t1] ty #[m', k']) w ρ h (.tup []) h' := by
  unfold delV at e
  split at e
  · rename_i kt et ht
    split at e
    · rename_i hk
      simp only [Option.some.injEq] at e; subst e
      obtain rfl := inv_nilm r
      have hck := checkKey_plain (P := P) (w := w) (keyFits_plain hk) true k'
      exact ⟨ρ, w, .tuple #[], Step.refl s, by simp [Builtin.delete_, run_und (mapTy_und ht), hck], by simp [VRel, LRel]⟩
    · cases e
  · rename_i kt et b ht
    split at e
    · rename_i hk
      obtain ⟨r', rfl, q'⟩ := inv_map r
      split at e
      · rename_i es clock hb
        obtain ⟨es', g1, g2⟩ := s.mapAt hb q'
        have hck := checkKey_plain (P := P) (w := w) (keyFits_plain hk) es'.isEmpty k'
        split at e
        · rename_i y hf
          simp only [Option.some.injEq] at e; subst e
          obtain ⟨f1, f2⟩ := findKey_ok (P := P) (w := w) hk hf q g2
          obtain ⟨y1, y2⟩ := f2 y rfl
          obtain ⟨e', k1, k2, k3, k4⟩ := g2.get _ _ y1
          have hl := g2.length
          rw [Array.length_toList] at hl
          have hyl : y.1 < es'.size := by
            have := (List.getElem?_eq_some_iff.1 k1).1
            rwa [Array.length_toList] at this
          have hrel : EntsRel ρ (es.eraseIdx y.1) (es'.eraseIdxIfInBounds y.1).toList := by
            have he : (es'.eraseIdxIfInBounds y.1).toList = es'.toList.eraseIdx y.1 := by
              simp [Array.eraseIdxIfInBounds, hyl, Array.toList_eraseIdx]
            rw [he]
            refine EntsRel.of_get (by rw [List.length_eraseIdx, List.length_eraseIdx, Array.length_toList, hl]) fun i u hi => ?_
            rw [List.getElem?_eraseIdx] at hi ⊢
            split at hi
            · rename_i hlt; rw [if_pos hlt]; exact g2.get _ _ hi
            · rename_i hlt; rw [if_neg hlt]; exact g2.get _ _ hi
          obtain ⟨w', p1, p2⟩ := put_map (P := P) (clock' := clock) s hb q' hrel
          have hrun : (Instr.findKey kt k' es'.toList).run P w = .ok (some (y.1, e'.val)) w := by rw [f1]; simp only [Option.bind_some, k1, Option.map_some]
          exact ⟨ρ, w', .tuple #[], p2, by simp [Builtin.delete_, run_und (mapTy_und ht), getObj, Sem.run, g1, hck, hrun, p1], by simp [VRel, LRel]⟩
        · rename_i hf
          simp only [Option.some.injEq] at e; subst e
          obtain ⟨f1, f2⟩ := findKey_ok (P := P) (w := w) hk hf q g2
          obtain ⟨w', p1, p2⟩ := put_map (P := P) (clock' := clock) s hb q' g2
          have hrun : (Instr.findKey kt k' es'.toList).run P w = .ok none w := by rw [f1]; rfl
          exact ⟨ρ, w', .tuple #[], p2, by simp [Builtin.delete_, run_und (mapTy_und ht), getObj, Sem.run, g1, hck, hrun, p1], by simp [VRel, LRel]⟩
        · cases e
      · cases e
    · cases e
  · cases e

/-- clear(m). -/
def clearV (P : Program) (h : H) (t : Nat) (m : V) : Option H := match mapTy P t, m with
  | some _, .nilm => some h
  | some _, .map b => (match h.get b with
    | some (.map _ clock) => some (h.put b (.map [] clock))
    | _ => none)
  | _, _ => none

theorem clearV_ok {P : Program} {ρ : Ren} {h h' : H} {w : World} {t ty : Nat} {m : V} {m' : Value} (e : clearV P h t m = some h') (s : Sim ρ h w) (r : VRel ρ m m') :
    MovesV P (Builtin.clear_ #[t] ty #[m']) w ρ h (.tup []) h' := by
  unfold clearV at e
  split at e
  · rename_i kt ht
    simp only [Option.some.injEq] at e; subst e
    obtain rfl := inv_nilm r
    obtain ⟨kt, et⟩ := kt
    exact ⟨ρ, w, .tuple #[], Step.refl s, by simp [Builtin.clear_, run_und (mapTy_und ht)], by simp [VRel, LRel]⟩
  · rename_i kt b ht
    obtain ⟨kt, et⟩ := kt
    obtain ⟨r', rfl, q'⟩ := inv_map r
    split at e
    · rename_i es clock hb
      simp only [Option.some.injEq] at e; subst e
      obtain ⟨es', g1, g2⟩ := s.mapAt hb q'
      obtain ⟨w', p1, p2⟩ := put_map (P := P) (es' := #[]) (clock' := clock) s hb q' (es1 := []) (by simp [EntsRel])
      exact ⟨ρ, w', .tuple #[], p2, by simp [Builtin.clear_, run_und (mapTy_und ht), getObj, Sem.run, g1, p1], by simp [VRel, LRel]⟩
    · cases e
  · cases e

/-- A new object that is no row of cells. -/
theorem new_obj {ρ : Ren} {h : H} {w : World} {o : Obj} {x : Blk} (s : Sim ρ h w) (hf : ρ h.n = none)
    (r : BlkRel (upd ρ h.n (some (some ⟨w.heap.size, 0, 0, 0⟩))) (w.alloc o) x ⟨w.heap.size, 0, 0, 0⟩) :
    Step ρ h w (upd ρ h.n (some (some ⟨w.heap.size, 0, 0, 0⟩))) (h.new x) (w.alloc o) :=
  step_new s hf rfl (by simp) rfl rfl rfl (fun k hk => by show (w.heap.push _)[k]? = _; rw [Array.getElem?_push, if_neg (by omega)]) r

theorem heap_alloc_at (w : World) (o : Obj) : (w.alloc o).heap[w.heap.size]? = some o := by show (w.heap.push _)[w.heap.size]? = _; simp

def makeMapV (h : H) : V × H := (.map h.n, h.new (.map [] 0))

theorem makeMapV_ok {P : Program} {ρ : Ren} {h : H} {w : World} {t : Nat} {x : Option V} {x' : Option Value} (ht : (mapTy P t).isSome = true) (hx : ∀ v, x = some v → ∃ k n, v = .int k n) (r : ORel ρ x x') (s : Sim ρ h w) (f : ρ h.n = none) :
    MovesV P (Instr.makeMap t x') w ρ h (.map h.n) (h.new (.map [] 0)) := by
  refine ⟨_, w.alloc (.map #[] 0), .map (some w.heap.size), new_obj s f ⟨rfl, #[], heap_alloc_at _ _, by simp [EntsRel]⟩, ?_, ?_⟩
  · obtain ⟨⟨kt, et⟩, ht⟩ := Option.isSome_iff_exists.1 ht
    cases x with
    | none => cases x' <;> simp [ORel] at r; simp [Instr.makeMap]
    | some v =>
      obtain ⟨k, n, rfl⟩ := hx v rfl
      cases x' with
      | none => simp [ORel] at r
      | some v' =>
        obtain rfl := inv_int (show VRel ρ (.int k n) v' from r)
        simp [Instr.makeMap, run_und (mapTy_und ht), asInt, asIntOf]
  · simp only [VRel]; exact .inr ⟨⟨w.heap.size, 0, 0, 0⟩, by simp [upd], rfl⟩

/-- A walk begins. -/
def rangeV (P : Program) (h : H) (t : Nat) (x : V) : Option (V × H) := match P.underlying t, x with
  | some .string, .str s => some (.ptr h.n 0, h.new (.siter s 0))
  | some (.map _ _), .nilm => some (.ptr h.n 0, h.new (.miter none 0 [] 0))
  | some (.map _ _), .map b => (match h.get b with
    | some (.map _ clock) => some (.ptr h.n 0, h.new (.miter (some b) clock [] clock))
    | _ => none)
  | _, _ => none

theorem PRel.newObj {ρ : Ren} {b k : Nat} : PRel (upd ρ b (some (some ⟨k, 0, 0, 0⟩))) b 0 ⟨k, 0, none⟩ := ⟨rfl, .inr ⟨⟨k, 0, 0, 0⟩, by simp [upd], rfl, rfl⟩⟩

theorem rangeV_ok {P : Program} {ρ : Ren} {h h' : H} {w : World} {t : Nat} {x v : V} {x' : Value} (e : rangeV P h t x = some (v, h')) (s : Sim ρ h w) (f : Fresh ρ h h') (r : VRel ρ x x') :
    MovesV P (Instr.range t x') w ρ h v h' := by
  unfold rangeV at e
  split at e
  · rename_i st hu
    simp only [Option.some.injEq, Prod.mk.injEq] at e; obtain ⟨rfl, rfl⟩ := e
    obtain ⟨s', rfl, hs⟩ := inv_str r
    exact ⟨_, w.alloc (.stringIter s' 0), .pointer (some ⟨w.heap.size, 0, none⟩), new_obj s (f.one (by simp)) ⟨rfl, s', heap_alloc_at _ _, hs⟩, by simp [Instr.range, run_und hu], by simp only [VRel]; exact PRel.newObj⟩
  · rename_i kt et hu
    simp only [Option.some.injEq, Prod.mk.injEq] at e; obtain ⟨rfl, rfl⟩ := e
    obtain rfl := inv_nilm r
    exact ⟨_, w.alloc (.mapIter none 0 #[] 0), .pointer (some ⟨w.heap.size, 0, none⟩), new_obj s (f.one (by simp)) ⟨rfl, none, heap_alloc_at _ _, trivial⟩, by simp [Instr.range, run_und hu], by simp only [VRel]; exact PRel.newObj⟩
  · rename_i kt et b hu
    split at e
    · rename_i es clock hb
      simp only [Option.some.injEq, Prod.mk.injEq] at e; obtain ⟨rfl, rfl⟩ := e
      obtain ⟨r', rfl, q'⟩ := inv_map r
      obtain ⟨es', g1, g2⟩ := s.mapAt hb q'
      have hf := f.one (by simp)
      obtain ⟨W, hW, _⟩ := s.live b _ hb
      have hne : b ≠ h.n := fun e => by rw [e, hf] at hW; cases hW
      refine ⟨_, w.alloc (.mapIter (some r') clock #[] clock), .pointer (some ⟨w.heap.size, 0, none⟩), new_obj s hf ⟨rfl, some r', heap_alloc_at _ _, ?_⟩, ?_, by simp only [VRel]; exact PRel.newObj⟩
      · rcases q' with q' | ⟨U, q1, q2⟩
        · exact .inl (by simp [upd, hne, q'])
        · exact .inr ⟨U, by simp [upd, hne, q1], q2⟩
      · simp [Instr.range, run_und hu, getObj, Sem.run, g1]
    · cases e
  · cases e

/-- A walk goes on: over a string's plain letters; over a map of one entry at most. -/
def nextV (h : H) (x : V) (str : Bool) : Option (V × H) := match x with
  | .ptr b 0 => (match h.get b, str with
    | some (.siter s pos), true => if pos < s.length then (match s[pos]? with
        | some c => if c < 128 then some (.tup [.bool true, .int .i64 pos, .int .i32 c], h.put b (.siter s (pos + 1))) else none
        | none => none)
      else some (.tup [.bool false], h)
    | some (.miter none _ _ _), false => some (.tup [.bool false], h)
    | some (.miter (some m) since seen stepped), false => (match h.get m with
      | some (.map es clock) => if es.any (fun e => Nat.ble since e.2.2) then none
          else if (!seen.isEmpty && !es.isEmpty && es.all (fun e => Nat.ble stepped e.2.2)) then none
          else (match es.filter (fun e => !(seen.contains e.2.2)) with
            | [] => some (.tup [.bool false], h)
            | [e] => some (.tup [.bool true, e.1, e.2.1], h.put b (.miter (some m) since (seen ++ [e.2.2]) clock))
            | _ => none)
      | _ => none)
    | _, _ => none)
  | _ => none

theorem decode_plain (s : ByteArray) (i : Nat) (c : Nat) (h : (strOf s)[i]? = some c) (hc : c < 128) : Utf8.decode s i = (c, 1) := by
  simp only [strOf, List.getElem?_map, Option.map_eq_some_iff] at h
  obtain ⟨u, hu, rfl⟩ := h
  have hu2 : s.data[i]? = some u := by simpa using hu
  have hg : (s.get! i) = u := by
    show s.data[i]! = u
    rw [getElem!_def, hu2]
  simp only [Utf8.decode, Nat.add_zero, hg]
  rw [if_pos hc]

theorem EntsRel.filter {ρ : Ren} (p : Nat → Bool) : ∀ {l : List (V × V × Nat)} {l' : List MapEntry}, EntsRel ρ l l' → EntsRel ρ (l.filter fun e => p e.2.2) (l'.filter fun e => p e.born)
  | [], [], r => by simp [EntsRel]
  | (a, b, c) :: l, e :: l', r => by
    simp only [EntsRel] at r
    have ih := EntsRel.filter p r.2.2.2
    have hb : e.born = c := r.2.2.1
    by_cases hp : p c = true
    · rw [List.filter_cons_of_pos (by simpa using hp), List.filter_cons_of_pos (by simpa [hb] using hp)]
      simp only [EntsRel]; exact ⟨r.1, r.2.1, hb, ih⟩
    · rw [List.filter_cons_of_neg (by simpa using hp), List.filter_cons_of_neg (by simpa [hb] using hp)]
      exact ih
  | [], _ :: _, r => by simp [EntsRel] at r
  | _ :: _, [], r => by simp [EntsRel] at r

theorem EntsRel.any {ρ : Ren} (p : Nat → Bool) : ∀ {l : List (V × V × Nat)} {l' : List MapEntry}, EntsRel ρ l l' → (l'.any fun e => p e.born) = l.any fun e => p e.2.2
  | [], [], r => rfl
  | (a, b, c) :: l, e :: l', r => by
    simp only [EntsRel] at r
    simp [EntsRel.any p r.2.2.2, r.2.2.1]
  | [], _ :: _, r => by simp [EntsRel] at r
  | _ :: _, [], r => by simp [EntsRel] at r

theorem EntsRel.all {ρ : Ren} (p : Nat → Bool) : ∀ {l : List (V × V × Nat)} {l' : List MapEntry}, EntsRel ρ l l' → (l'.all fun e => p e.born) = l.all fun e => p e.2.2
  | [], [], r => rfl
  | (a, b, c) :: l, e :: l', r => by
    simp only [EntsRel] at r
    simp [EntsRel.all p r.2.2.2, r.2.2.1]
  | [], _ :: _, r => by simp [EntsRel] at r
  | _ :: _, [], r => by simp [EntsRel] at r

/-- An object that is no row of cells is written. -/
theorem put_obj {P : Program} {ρ : Ren} {h : H} {w : World} {b : Nat} {x x' : Blk} {W : Win} {o o' : Obj} (s : Sim ρ h w) (hb : h.get b = some x) (hx : x.ro = false) (hW : ρ b = some (some W)) (ho : w.heap[W.blk]? = some o) (hc : ∀ c e f, o ≠ .cells c e f)
    (r : BlkRel ρ { w with heap := w.heap.setIfInBounds W.blk o' } x' W) :
    (setObj W.blk o').run P w = .ok () { w with heap := w.heap.setIfInBounds W.blk o' } ∧ Step ρ h w ρ (h.put b x') { w with heap := w.heap.setIfInBounds W.blk o' } := by
  have hlt : W.blk < w.heap.size := (Array.getElem?_eq_some_iff.1 ho).1
  refine ⟨?_, step_put s hb hx hW (by simp) rfl rfl rfl (fun k hk => by simp [Array.getElem?_setIfInBounds_ne (Ne.symm hk)]) r⟩
  cases o <;> first | exact absurd rfl (hc _ _ _) | simp only [setObj, Sem.run, ho]

theorem nextV_ok {P : Program} {ρ : Ren} {h h' : H} {w : World} {str : Bool} {ty : Nat} {x v : V} {x' : Value} (e : nextV h x str = some (v, h')) (s : Sim ρ h w) (r : VRel ρ x x') :
    MovesV P (Instr.next x' str ty) w ρ h v h' := by
  unfold nextV at e
  split at e
  · rename_i b
    obtain ⟨a, rfl, p⟩ := inv_ptr r
    split at e
    · rename_i st pos hb
      obtain ⟨W, hW, h0, st', h1, h2⟩ := s.live b _ hb
      obtain rfl := p.addr hW
      have hsz : st'.size = st.length := by rw [← h2, strOf_length]
      split at e
      · rename_i hpos
        split at e
        · rename_i c hcs
          split at e
          · rename_i hc
            simp only [Option.some.injEq, Prod.mk.injEq] at e; obtain ⟨rfl, rfl⟩ := e
            have hd := decode_plain st' pos c (by rw [h2]; exact hcs) hc
            have hlt : W.blk < w.heap.size := (Array.getElem?_eq_some_iff.1 h1).1
            obtain ⟨g1, g2⟩ := put_obj (P := P) (x' := .siter st (pos + 1)) (o' := .stringIter st' (pos + 1)) s hb rfl hW h1 (fun _ _ _ h => by cases h) ⟨h0, st', by simp [hlt], h2⟩
            refine ⟨ρ, _, .tuple #[.bool true, goInt pos, .int .i32 c], g2, ?_, by simp [VRel, LRel, goInt]⟩
            simp [Instr.next, h0, getObj, Sem.run, h1, hsz, hpos, hd, g1]
          · cases e
        · cases e
      · rename_i hpos
        simp only [Option.some.injEq, Prod.mk.injEq] at e; obtain ⟨rfl, rfl⟩ := e
        exact ⟨ρ, w, .tuple #[.bool false], Step.refl s, by simp [Instr.next, h0, getObj, Sem.run, h1, hsz, hpos], by simp [VRel, LRel]⟩
    · rename_i since seen stepped hb
      simp only [Option.some.injEq, Prod.mk.injEq] at e; obtain ⟨rfl, rfl⟩ := e
      obtain ⟨W, hW, h0, m', h1, h2⟩ := s.live b _ hb
      obtain rfl := p.addr hW
      cases m' with
      | some _ => simp at h2
      | none => exact ⟨ρ, w, .tuple #[.bool false], Step.refl s, by simp [Instr.next, h0, getObj, Sem.run, h1], by simp [VRel, LRel]⟩
    · rename_i m since seen stepped hb
      obtain ⟨W, hW, h0, m', h1, h2⟩ := s.live b _ hb
      obtain rfl := p.addr hW
      cases m' with
      | none => simp at h2
      | some r' =>
        split at e
        · rename_i es clock hm
          obtain ⟨es', g1, g2⟩ := s.mapAt hm h2
          split at e
          · cases e
          · rename_i hsince
            split at e
            · cases e
            · rename_i hstep
              have hcond : (!seen.toArray.isEmpty && !es'.isEmpty && es'.all (fun x => decide (x.born ≥ stepped))) = false := by
                have h3 := EntsRel.all (fun n => decide (n ≥ stepped)) g2
                have h4 := g2.length
                have h5 : es'.all (fun x => decide (x.born ≥ stepped)) = es.all (fun e => Nat.ble stepped e.2.2) := by
                  rw [← Array.all_toList, h3]
                  congr 1
                  funext e
                  rw [Bool.eq_iff_iff]; simp
                have h6 : es'.isEmpty = es.isEmpty := by
                  rw [Array.length_toList] at h4
                  cases es <;> simp [Array.isEmpty, h4]
                rw [h5, h6]
                cases hz : (!seen.isEmpty && !es.isEmpty && es.all (fun e => Nat.ble stepped e.2.2)) with
                | true => exact absurd hz hstep
                | false =>
                  rw [← hz]
                  cases seen <;> rfl
              have hleft := EntsRel.filter (fun n => !(seen.contains n)) g2
              have hleftA : (es'.filter fun e => !seen.toArray.contains e.born).toList = es'.toList.filter fun e => !(seen.contains e.born) := by
                rw [Array.toList_filter]
                congr 1
                funext e
                simp
              have hold : ∀ l : Array MapEntry, (∀ e ∈ l.toList, e ∈ es'.toList) → (l.filter fun e => decide (e.born < since)) = l ∧ (l.filter fun e => decide (e.born ≥ since)) = #[] := fun l hl => by
                have hlt : ∀ e ∈ es'.toList, e.born < since := fun e he => by
                  have h3 := EntsRel.any (fun n => Nat.ble since n) g2
                  have h4 : (es'.toList.any fun e => Nat.ble since e.born) = false := by
                    rw [h3]; exact Bool.eq_false_iff.2 hsince
                  rw [List.any_eq_false] at h4
                  have := h4 e he
                  simp at this
                  omega
                constructor
                · rw [Array.filter_eq_self]
                  intro e he
                  simpa using hlt e (hl e (by simpa using he))
                · rw [Array.filter_eq_empty_iff]
                  intro e he
                  have := hlt e (hl e (by simpa using he))
                  simp; omega
              have hsub : ∀ e ∈ (es'.filter fun e => !seen.toArray.contains e.born).toList, e ∈ es'.toList := fun e he => by
                rw [hleftA] at he
                exact (List.mem_filter.1 he).1
              obtain ⟨ho, hn⟩ := hold _ hsub
              split at e
              · rename_i hnil
                simp only [Option.some.injEq, Prod.mk.injEq] at e; obtain ⟨rfl, rfl⟩ := e
                rw [hnil, ← hleftA] at hleft
                have hempty : (es'.filter fun e => !seen.toArray.contains e.born) = #[] := by
                  have := hleft.length
                  apply Array.ext'
                  simpa using this
                rw [hempty] at ho hn
                refine ⟨ρ, w, .tuple #[.bool false], Step.refl s, ?_, by simp [VRel, LRel]⟩
                simp only [Instr.next, h0, Nat.zero_add, Nat.add_zero, Sem.run_bind, getObj, Sem.run, h1, g1, Result.andThen_ok, hcond, Bool.false_eq_true, if_false, hempty, ho, hn]
                simp [Question.forced]
              · rename_i en hone
                simp only [Option.some.injEq, Prod.mk.injEq] at e; obtain ⟨rfl, rfl⟩ := e
                rw [hone, ← hleftA] at hleft
                obtain ⟨e', he'⟩ : ∃ e', (es'.filter fun e => !seen.toArray.contains e.born) = #[e'] := by
                  have hl := hleft.length
                  rw [Array.length_toList] at hl
                  exact Array.size_eq_one_iff.1 (by simpa using hl)
                rw [he'] at ho hn hleft
                obtain ⟨ek, ev, eb⟩ := en
                simp only [EntsRel] at hleft
                obtain ⟨q1, q2, q3, _⟩ := hleft
                have hlt : W.blk < w.heap.size := (Array.getElem?_eq_some_iff.1 h1).1
                obtain ⟨k1, k2⟩ := put_obj (P := P) (x' := .miter (some m) since (seen ++ [eb]) clock) (o' := .mapIter (some r') since (seen.toArray.push e'.born) clock) s hb rfl hW h1 (fun _ _ _ h => by cases h)
                  ⟨h0, some r', by simp [hlt, q3], h2⟩
                refine ⟨ρ, _, .tuple #[.bool true, e'.key, e'.val], k2, ?_, by simp [VRel, LRel, q1, q2]⟩
                simp only [Instr.next, h0, Nat.zero_add, Nat.add_zero, Sem.run_bind, getObj, Sem.run, h1, g1, Result.andThen_ok, hcond, Bool.false_eq_true, if_false, he', ho, hn]
                rw [List.push_toArray] at k1 ⊢
                simp [Question.forced, k1]
              · cases e
        · cases e
    · cases e
  · cases e

end Go.Proofs.YtgihdlhoaimlpaaGreatDoor.AM
