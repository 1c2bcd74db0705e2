/- The abstract machine: a map ranged over in whatever order: all orders are run, and must come to one. -/
import Derived.Test.YtgihdlhoaimlpaaGreatDoorAMzg
namespace Go.Proofs.YtgihdlhoaimlpaaGreatDoor.AM
set_option autoImplicit false
set_option linter.unusedSimpArgs false
set_option linter.unusedVariables false

/-- The entries that may come out next. -/
def nextL (h : H) (x : V) : Option (List (V × H)) := match x with
  | .ptr b 0 => (match h.get b with
    | some (.miter (some m) since seen stepped) => (match h.get m with
      | some (.map es clock) => if es.any (fun e => Nat.ble since e.2.2) then none
          else if (!seen.isEmpty && !es.isEmpty && es.all (fun e => Nat.ble stepped e.2.2)) then none
          else if (es.filter (fun e => !(seen.contains e.2.2))).isEmpty then none
          else some ((es.filter (fun e => !(seen.contains e.2.2))).map fun e => (.tup [.bool true, e.1, e.2.1], h.put b (.miter (some m) since (seen ++ [e.2.2]) clock)))
      | _ => none)
    | _ => none)
  | _ => none

def allM {α β : Type} (f : α → Option (List β)) : List α → Option (List β)
  | [] => some []
  | x :: l => match f x, allM f l with
    | some a, some b => some (a ++ b)
    | _, _ => none

theorem allM_mem {α β : Type} {f : α → Option (List β)} : ∀ {l : List α} {r : List β}, allM f l = some r → ∀ x ∈ l, ∃ a, f x = some a ∧ ∀ y ∈ a, y ∈ r
  | [], r, _, x, hx => by cases hx
  | z :: l, r, e, x, hx => by
    simp only [allM] at e
    split at e
    · rename_i a b h1 h2
      simp only [Option.some.injEq] at e; subst e
      rcases List.mem_cons.1 hx with rfl | hx
      · exact ⟨a, h1, fun y hy => List.mem_append.2 (.inl hy)⟩
      · obtain ⟨a', h3, h4⟩ := allM_mem h2 x hx
        exact ⟨a', h3, fun y hy => List.mem_append.2 (.inr (h4 y hy))⟩
    · cases e

theorem allM_of {α β : Type} {f : α → Option (List β)} : ∀ {l : List α} {r : List β}, allM f l = some r → ∀ y ∈ r, ∃ x ∈ l, ∃ a, f x = some a ∧ y ∈ a
  | [], r, e, y, hy => by simp [allM] at e; subst e; cases hy
  | z :: l, r, e, y, hy => by
    simp only [allM] at e
    split at e
    · rename_i a b h1 h2
      simp only [Option.some.injEq] at e; subst e
      rcases List.mem_append.1 hy with hy | hy
      · exact ⟨z, by simp, a, h1, hy⟩
      · obtain ⟨x, h3, a', h4, h5⟩ := allM_of h2 y hy
        exact ⟨x, by simp [h3], a', h4, h5⟩
    · cases e

abbrev Outs := List (X × St)

def thenL (k : St → Option Outs) (r : X × St) : Option Outs := match r with
  | (.normal, s) => k s
  | r => some [r]

def loopL (body : St → Option Outs) : Nat → St → Option Outs
  | 0, _ => none
  | n + 1, s => match body s with
    | some outs => allM (thenL (loopL body n)) outs
    | none => none

def exitL (id : Nat) (r : X × St) : X × St := match r with
  | (.exit i, s) => if i = id then (.normal, s) else (.exit i, s)
  | r => r

def regL (P : Program) (G nt : Nat) (call : CallF) (ops : Array Oper) (s : St) : List Oper → Option Outs
  | [] => none
  | o :: l => match o.op, o.guard with
    | .next x false, none => (match opV G s.env x with
      | some a => (match nextL s.h a with
        | some outs => allM (fun (r : V × H) => match putD nt s.env o.dst r.1 with
            | some e => (match stepsV P G nt call ops l ⟨e, r.2, s.ds⟩ with
              | some s' => some [(.normal, s')]
              | none => none)
            | none => none) outs
        | none => none)
      | none => none)
    | _, _ => none

def evL (P : Program) (G nt : Nat) (call : CallF) (lf : Nat) : Code → St → Option Outs
  | .region id ops draw, s => (match evC P G nt call lf (.region id ops draw) s with
    | some r => some [r]
    | none => if draw then none else regL P G nt call ops s ops.toList)
  | .seq a b, s => (match evL P G nt call lf a s with
    | some outs => allM (thenL (evL P G nt call lf b)) outs
    | none => none)
  | .cond c a b, s => (match opV G s.env c with
    | some (.bool true) => evL P G nt call lf a s
    | some (.bool false) => evL P G nt call lf b s
    | _ => none)
  | .block id c, s => (evL P G nt call lf c s).map fun outs => outs.map (exitL id)
  | .loop c, s => loopL (evL P G nt call lf c) lf s
  | c, s => (evC P G nt call lf c s).map fun r => [r]

section
variable {P : Program} {ρ : Ren} {h h' : H} {w w' : World} {G nt lf : Nat} {call : CallF}

theorem nextL_n {x : V} {outs : List (V × H)} (e : nextL h x = some outs) : (∀ r ∈ outs, h.n ≤ r.2.n) ∧ outs ≠ [] := by
  unfold nextL at e
  repeat' (first | (cases e; done) | split at e)
  rename_i hne
  simp only [Option.some.injEq] at e; subst e
  refine ⟨fun r hr => ?_, fun h => hne ?_⟩
  · obtain ⟨y, _, rfl⟩ := List.mem_map.1 hr
    simp
  · simpa using h

theorem EntsRel.nth {ρ : Ren} : ∀ {l : List (V × V × Nat)} {l' : List MapEntry}, EntsRel ρ l l' → ∀ (i : Nat) (e' : MapEntry), l'[i]? = some e' → ∃ e, l[i]? = some e ∧ VRel ρ e.1 e'.key ∧ VRel ρ e.2.1 e'.val ∧ e'.born = e.2.2
  | [], [], r, i, e', h => by simp at h
  | (a, b, c) :: l, e :: l', r, i, e', h => by
    simp only [EntsRel] at r
    cases i with
    | zero =>
      simp only [List.getElem?_cons_zero, Option.some.injEq] at h; subst h
      exact ⟨(a, b, c), rfl, r.1, r.2.1, r.2.2.1⟩
    | succ i =>
      obtain ⟨y, h1, h2⟩ := EntsRel.nth r.2.2.2 i e' (by simpa using h)
      exact ⟨y, by simpa using h1, h2⟩
  | [], _ :: _, r, _, _, _ => by simp [EntsRel] at r
  | _ :: _, [], r, _, _, _ => by simp [EntsRel] at r

/-- Whichever entry comes out, it is one of these. -/
theorem nextL_ok {ty : Nat} {x : V} {x' : Value} {outs : List (V × H)} (e : nextL h x = some outs) (s : Sim ρ h w) (r : VRel ρ x x') :
    ∃ y ∈ outs, MovesV P (Instr.next x' false ty) w ρ h y.1 y.2 := by
  unfold nextL at e
  split at e
  · rename_i b
    obtain ⟨a, rfl, p⟩ := inv_ptr r
    split at e
    · rename_i m since seen stepped hb
      obtain ⟨W, hW, h0, m', h1, h2⟩ := s.live b _ hb
      obtain rfl := p.addr hW
      cases m' with
      | none => simp at h2
      | some r' =>
        split at e
        · rename_i es clock hm
          obtain ⟨es', g1, g2⟩ := s.mapAt hm h2
          split at e
          · cases e
          · rename_i hsince
            split at e
            · cases e
            · rename_i hstep
              split at e
              · cases e
              · rename_i hne
                simp only [Option.some.injEq] at e; subst e
                have hcond : (!seen.toArray.isEmpty && !es'.isEmpty && es'.all (fun x => decide (x.born ≥ stepped))) = false := by
                  have h3 := EntsRel.all (fun n => decide (n ≥ stepped)) g2
                  have h4 := g2.length
                  have h5 : es'.all (fun x => decide (x.born ≥ stepped)) = es.all (fun e => Nat.ble stepped e.2.2) := by
                    rw [← Array.all_toList, h3]
                    congr 1
                    funext e
                    rw [Bool.eq_iff_iff]; simp
                  have h6 : es'.isEmpty = es.isEmpty := by
                    rw [Array.length_toList] at h4
                    cases es <;> simp [Array.isEmpty, h4]
                  rw [h5, h6]
                  cases hz : (!seen.isEmpty && !es.isEmpty && es.all (fun e => Nat.ble stepped e.2.2)) with
                  | true => exact absurd hz hstep
                  | false =>
                    rw [← hz]
                    cases seen <;> rfl
                have hleft := EntsRel.filter (fun n => !(seen.contains n)) g2
                have hleftA : (es'.filter fun e => !seen.toArray.contains e.born).toList = es'.toList.filter fun e => !(seen.contains e.born) := by
                  rw [Array.toList_filter]
                  congr 1
                  funext e
                  simp
                have hlt : ∀ e ∈ es'.toList, e.born < since := fun e he => by
                  have h3 := EntsRel.any (fun n => Nat.ble since n) g2
                  have h4 : (es'.toList.any fun e => Nat.ble since e.born) = false := by
                    rw [h3]; exact Bool.eq_false_iff.2 hsince
                  rw [List.any_eq_false] at h4
                  have := h4 e he
                  simp at this
                  omega
                have hsub : ∀ e ∈ (es'.filter fun e => !seen.toArray.contains e.born).toList, e.born < since := fun e he => by
                  rw [hleftA] at he
                  exact hlt e (List.mem_filter.1 he).1
                rw [← hleftA] at hleft
                generalize hL : (es'.filter fun e => !seen.toArray.contains e.born) = L at hsub hleft
                have ho : L.filter (fun e => decide (e.born < since)) = L := Array.filter_eq_self.2 fun e he => by simpa using hsub e (by simpa using he)
                have hn : L.filter (fun e => decide (e.born ≥ since)) = #[] := by
                  rw [Array.filter_eq_empty_iff]
                  intro e he
                  have := hsub e (by simpa using he)
                  simp; omega
                have hsz : L.size ≠ 0 := by
                  have := hleft.length
                  rw [Array.length_toList] at this
                  intro h
                  rw [h] at this
                  exact hne (by simpa using List.eq_nil_of_length_eq_zero this.symm)
                have hemp : L.isEmpty = false := by simp [Array.isEmpty, hsz]
                have hch : ∃ (j k : Nat), j < L.size ∧ (choose (Question.mapNext L.size)).run P w = .ok j { w with drawn := k } := by
                  by_cases hf : L.size ≤ 1
                  · exact ⟨0, w.drawn, by omega, by simp [choose, Sem.run, Question.forced, hf]⟩
                  · exact ⟨_, w.drawn + 1, Nat.mod_lt _ (by omega), by
                      simp only [choose, Sem.run, Question.forced, decide_eq_true_eq, hf, if_false, Question.cut]
                      rfl⟩
                obtain ⟨j, k, hj, hrun⟩ := hch
                obtain ⟨en, q0, q1, q2, q3⟩ := hleft.nth j L[j] (by simp [hj])
                refine ⟨_, List.mem_map.2 ⟨en, List.mem_of_getElem? q0, rfl⟩, ?_⟩
                have sd := Step.drew s k
                have h1' : ({ w with drawn := k } : World).heap[W.blk]? = some (.mapIter (some r') since seen.toArray stepped) := h1
                have hlt' : W.blk < w.heap.size := (Array.getElem?_eq_some_iff.1 h1).1
                obtain ⟨k1, k2⟩ := put_obj (P := P) (w := { w with drawn := k }) (x' := .miter (some m) since (seen ++ [en.2.2]) clock) (o' := .mapIter (some r') since (seen.toArray.push L[j].born) clock) sd.sim hb rfl hW h1' (fun _ _ _ h => by cases h)
                  ⟨h0, some r', by simp [hlt', q3], h2⟩
                refine ⟨ρ, _, .tuple #[.bool true, L[j].key, L[j].val], Step.trans (fun b h1 h2 => by simp at h2; omega) sd k2, ?_, by simp [VRel, LRel, q1, q2]⟩
                simp only [Instr.next, h0, Nat.zero_add, Nat.add_zero, Sem.run_bind, getObj, Sem.run, h1, g1, Result.andThen_ok, hcond, Bool.false_eq_true, if_false, hL, ho, hn, Array.append_empty, hemp, Array.empty_append, Array.size_map, hrun, Array.getElem?_map, Array.getElem?_eq_getElem hj, Option.map_some, k1]
                rfl
        · cases e
    · cases e
  · cases e

end
end Go.Proofs.YtgihdlhoaimlpaaGreatDoor.AM
