/- The abstract machine: bytes and strings; the mark that a constant's bytes get. -/
import Derived.Test.YtgihdlhoaimlpaaGreatDoorAMn
namespace Go.Proofs.YtgihdlhoaimlpaaGreatDoor.AM
set_option autoImplicit false
set_option linter.unusedSimpArgs false
set_option linter.unusedVariables false

def isU8 (P : Program) (e : Nat) : Bool := match P.underlying e with
  | some (.int .u8) => true
  | _ => false
theorem isU8_und {P : Program} {e : Nat} (h : isU8 P e = true) : P.underlying e = some (.int .u8) := by
  unfold isU8 at h; split at h <;> simp_all

/-- []byte(s). -/
def strBytesV (P : Program) (h : H) (s d : Nat) (x : V) : Option (V × H) := match P.underlying s, elemSl P d, x with
  | some .string, some e, .str l => if isU8 P e && Nat.blt l.length 1073741824 then some (.sl 1 h.n 0 l.length l.length, h.new (.row e (l.map fun (c : Nat) => V.int .u8 (Int.ofNat c)) true false)) else none
  | _, _, _ => none

theorem Step.congr {ρ ρ' : Ren} {h h' h'' : H} {w w' : World} (s : Step ρ h w ρ' h' w') (e : ∀ b, h''.get b = h'.get b) (n : h''.n = h'.n) : Step ρ h w ρ' h'' w' where
  sim := ⟨fun b x hb => s.sim.live b x (by rw [← e]; exact hb), fun b c x y W U h1 h2 h3 h4 h5 => s.sim.inj b c x y W U (by rw [← e]; exact h1) (by rw [← e]; exact h2) h3 h4 h5⟩
  ext := s.ext
  new := fun b h0 h1 => by rw [n]; exact s.new b h0 h1
  live := fun b hb => by rw [n]; exact s.live b (by rw [← e]; exact hb)
  nn := by rw [n]; exact s.nn
  size := s.size
  tape := s.tape
  os := s.os
  output := s.output
  keep := s.keep
  mu := fun k ⟨b, x, W, h1, h2, h3, h4⟩ => s.mu k ⟨b, x, W, by rw [← e]; exact h1, h2, h3, h4⟩
  liv := fun k ⟨b, x, W, h1, h3, h4⟩ => s.liv k ⟨b, x, W, by rw [← e]; exact h1, h3, h4⟩

theorem step_touch {ρ : Ren} {h : H} {w w' : World} {b : Nat} {x : Blk} {W : Win} (s : Sim ρ h w) (hb : h.get b = some x) (hx : x.ro = false) (hW : ρ b = some (some W))
    (hs : w'.heap.size = w.heap.size) (ht : w'.tape = w.tape) (ho : w'.os = w.os) (hp : w'.output = w.output) (hk : ∀ k, k ≠ W.blk → w'.heap[k]? = w.heap[k]?) (r : BlkRel ρ w' x W) :
    Step ρ h w ρ h w' :=
  (step_put (x' := x) s hb hx hW hs ht ho hp hk r).congr (fun c => by rw [H.get_put]; split <;> simp_all) rfl

/-- The mark behind the end of a row. -/
theorem step_mark {ρ : Ren} {h : H} {w : World} {b e : Nat} {cs : List V} {opn : Bool} {W : Win} (s : Sim ρ h w) (hb : h.get b = some (.row e cs opn false)) (hW : ρ b = some (some W)) :
    ∃ n, w.shape? W.blk = some (e, n) ∧ Step ρ h w ρ h (w.freeze ⟨W.blk, n, none⟩ 1) := by
  obtain ⟨U, hU, c, fr, h1, h2, h3, h4, h5, h6, h7⟩ := s.live b _ hb
  rw [hW] at hU; simp at hU; subst hU
  refine ⟨c.size, by simp [World.shape?, h1], ?_⟩
  have hheap : ∀ k, (w.freeze ⟨W.blk, c.size, none⟩ 1).heap[k]? = if k = W.blk then (w.heap[k]?).map (fun
      | .cells c e (lo, hi) => .cells c e (if lo == hi then (c.size, c.size + 1) else (min lo c.size, max hi (c.size + 1)))
      | o => o) else w.heap[k]? := fun k => by
    simp only [World.freeze]
    rw [if_neg (by decide)]
    simp only [Array.getElem?_modify]
    by_cases hk : k = W.blk
    · subst hk; simp [h1]
    · simp [hk, Ne.symm hk]
  refine step_touch s hb rfl hW (by simp [World.freeze]) rfl rfl rfl (fun k hk => by rw [hheap, if_neg hk]) ?_
  obtain ⟨lo, hi⟩ := fr
  refine ⟨c, if lo == hi then (c.size, c.size + 1) else (min lo c.size, max hi (c.size + 1)), by rw [hheap, if_pos rfl, h1]; rfl, h2, h3, h4, h5, h6, fun hr => .inr ?_⟩
  have := h7 hr
  split
  · exact h4
  · rename_i hne
    simp at hne this
    simp only
    omega

theorem strBytesV_ok {P : Program} {ρ : Ren} {h h' : H} {w : World} {sT d : Nat} {x v : V} {x' : Value} (e : strBytesV P h sT d x = some (v, h')) (s : Sim ρ h w) (f : Fresh ρ h h') (r : VRel ρ x x') :
    MovesV P (convert sT d x') w ρ h v h' := by
  unfold strBytesV at e
  split at e
  · rename_i el l hs hd
    obtain ⟨t, rfl, rfl⟩ := inv_str r
    split at e
    · rename_i hc
      simp only [Bool.and_eq_true] at hc
      obtain ⟨hu, hlt⟩ := hc
      simp only [Option.some.injEq, Prod.mk.injEq] at e; obtain ⟨rfl, rfl⟩ := e
      have hu8 := isU8_und hu
      have hf := f.one (by simp)
      have hn : t.size < 1073741824 := by
        rw [strOf_length] at hlt
        exact Nat.le_of_ble_eq_true hlt
      let q : Question := .appendCap t.size 0 el
      have hcap : ∃ cap, t.size ≤ cap ∧ (choose (.appendCap t.size 0 el)).run P w = .ok cap w.drew := by
        refine ⟨q.cut (w.tape w.drawn q), by simp [q, Question.cut], ?_⟩
        rw [run_choose]; rfl
      obtain ⟨cap, hge, hch⟩ := hcap
      let c : Array Value := (t.data.map fun b => Value.int .u8 b.toNat) ++ Array.replicate (cap - t.size) (.int .u8 0)
      have hcs : c.size = cap := by
        show ((t.data.map _) ++ _).size = cap
        rw [Array.size_append, Array.size_map, Array.size_replicate]
        have : t.data.size = t.size := rfl
        omega
      have hrel : LRel ρ ((strOf t).map fun (c : Nat) => V.int .u8 (Int.ofNat c)) (c.toList.take ((strOf t).map fun (c : Nat) => V.int .u8 (Int.ofNat c)).length) := by
        have htake : c.toList.take ((strOf t).map fun (c : Nat) => V.int .u8 (Int.ofNat c)).length = t.data.toList.map fun b => Value.int .u8 b.toNat := by
          show List.take _ ((t.data.map _) ++ _).toList = _
          rw [Array.toList_append, List.take_append_of_le_length (by simp [strOf]), List.take_of_length_le (by simp [strOf]), Array.toList_map]
        rw [htake]
        simp only [strOf, List.map_map]
        refine LRel.of_get (by simp) fun i v hi => ?_
        simp only [List.getElem?_map, Option.map_eq_some_iff] at hi ⊢
        obtain ⟨u, h1, h2⟩ := hi
        exact ⟨_, ⟨u, h1, rfl⟩, by rw [← h2]; simp [VRel]⟩
      have s1 := Step.drew s (w.drawn + 1)
      have s2 := new_row (e := el) (fin := cap) (c := c) (fr := (0, 0)) (opn := true) s1.sim hf hrel (by simp [strOf]; exact hge) (by omega) (fun h => by cases h) (.inl rfl)
      have hlen : ((strOf t).map fun (c : Nat) => V.int .u8 (Int.ofNat c)).length = t.size := by rw [List.length_map, strOf_length]
      obtain ⟨n, g1, g2⟩ := step_mark (b := h.n) s2.sim (by simp; exact ⟨rfl, rfl, rfl⟩) (by simp [upd]; rfl)
      refine ⟨_, _, .slice (some ⟨w.heap.size, 0, none⟩) t.size cap, Step.trans f s1 (Step.trans (Fresh.right f s1) s2 g2), ?_, ?_⟩
      · have hb0 : (w.drew.alloc (.cells c el)).shape? w.heap.size = some (el, n) := g1
        have e1 : (convert sT d (.string t)).run P w = (Conv.stringToBytes el t).run P w := by simp [convert, run_und hs, run_und (elemSl_und hd), run_und hu8]
        rw [e1]
        have hsz : w.drew.heap.size = w.heap.size := rfl
        simp only [Conv.stringToBytes, Sem.run_bind, hch, Result.andThen_ok, newRow, run_newObj, Sem.run_pure, World.alloc_eq, markStringish, run_shape, hsz]
        have hb1 : (w.drew.alloc (.cells (t.data.map (fun b => Value.int .u8 b.toNat) ++ Array.replicate (cap - t.size) (.int .u8 0)) el)).shape? w.heap.size = some (el, n) := g1
        rw [hb1]
        simp only [run_freeze, Result.andThen_ok]
        rfl
      · simp only [VRel, strOf_length]
        refine ⟨rfl, Nat.le_refl _, hge, .inr ⟨⟨rfl, .inr ⟨_, by simp [upd]; rfl, rfl, rfl⟩⟩, fun U hU => ?_⟩⟩
        simp [upd] at hU; subst hU
        exact ⟨by simp [strOf_length], by simp, fun h => by simp [strOf_length] at h⟩
    · cases e
  · cases e

/-- A slice of bytes turned into itself: it may be a constant's. -/
def markV (P : Program) (h : H) (s d : Nat) (x : V) : Option V := match elemSl P s, elemSl P d, x with
  | some _, some e, .sl sz b o l c => if Nat.beq s d && isU8 P e && Nat.blt 0 c then (match h.get b with
    | some (.row _ _ _ false) => some (.sl sz b o l c)
    | _ => none) else none
  | _, _, _ => none

theorem markV_ok {P : Program} {ρ : Ren} {h : H} {w : World} {sT d : Nat} {x v : V} {x' : Value} (e : markV P h sT d x = some v) (s : Sim ρ h w) (r : VRel ρ x x') :
    MovesV P (convert sT d x') w ρ h v h := by
  unfold markV at e
  split at e
  · rename_i e1 el sz b o l c hs hd
    split at e
    · rename_i hc
      simp only [Bool.and_eq_true] at hc
      obtain ⟨⟨hsd, hu⟩, hc0⟩ := hc
      have hsd := Nat.eq_of_beq_eq_true hsd
      subst hsd
      obtain rfl : e1 = el := by rw [hs] at hd; simpa using hd
      have hc0 : 0 < c := Nat.le_of_ble_eq_true hc0
      split at e
      · rename_i el' cs opn hb
        simp only [Option.some.injEq] at e; subst e
        obtain ⟨a, l', c', rfl, hr⟩ := inv_sl r
        obtain ⟨W, hW, _⟩ := s.live b _ hb
        have hp : PRel ρ b o a := by
          rcases hr.2.2.2 with h1 | h1
          · omega
          · exact h1.1
        obtain rfl := hp.addr hW
        obtain ⟨n, g1, g2⟩ := step_mark s hb hW
        refine ⟨ρ, _, .slice (some ⟨W.blk, W.sh + o, none⟩) l' c', g2, ?_, by simp only [VRel]; exact hr⟩
        simp [convert, run_und (elemSl_und hs), run_und (isU8_und hu), markStringish, g1]
      · cases e
    · cases e
  · cases e

end Go.Proofs.YtgihdlhoaimlpaaGreatDoor.AM
