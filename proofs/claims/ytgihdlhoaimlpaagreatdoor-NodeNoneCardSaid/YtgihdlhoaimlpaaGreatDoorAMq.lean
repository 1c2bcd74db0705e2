/- The abstract machine: single operations are simulated. -/
import Derived.Test.YtgihdlhoaimlpaaGreatDoorAMo
namespace Go.Proofs.YtgihdlhoaimlpaaGreatDoor.AM
set_option autoImplicit false
set_option linter.unusedSimpArgs false
set_option linter.unusedVariables false

theorem find_rel {ρ : Ren} (p : Nat → Bool) : ∀ {l : List (V × V × Nat)} {l' : List MapEntry}, EntsRel ρ l l' → ∀ e, l.find? (fun e => p e.2.2) = some e → ∃ e', l'.find? (fun e => p e.born) = some e' ∧ VRel ρ e.1 e'.key ∧ VRel ρ e.2.1 e'.val
  | [], [], r, e, h => by simp at h
  | (a, b, c) :: l, e' :: l', r, e, h => by
    simp only [EntsRel] at r
    have hb : e'.born = c := r.2.2.1
    by_cases hp : p c = true
    · rw [List.find?_cons_of_pos (by simpa using hp)] at h
      simp at h; subst h
      exact ⟨e', by rw [List.find?_cons_of_pos (by simpa [hb] using hp)], r.1, r.2.1⟩
    · rw [List.find?_cons_of_neg (by simpa using hp)] at h
      rw [List.find?_cons_of_neg (by simpa [hb] using hp)]
      exact find_rel p r.2.2.2 e h
  | [], _ :: _, r, _, _ => by simp [EntsRel] at r
  | _ :: _, [], r, _, _ => by simp [EntsRel] at r

theorem entryV_ok {P : Program} {ρ : Ren} {h : H} {w : World} (s : Sim ρ h w) {x v : V} {x' : Value} (e : entryV h x = some v) (r : VRel ρ x x') : GivesV P (Instr.entry x') w ρ v := by
  unfold entryV at e
  split at e
  · rename_i b
    obtain ⟨a, rfl, p⟩ := inv_ptr r
    split at e
    · rename_i m since seen stepped hb
      obtain ⟨W, hW, h0, m', h1, h2⟩ := s.live b _ hb
      obtain rfl := p.addr hW
      cases m' with
      | none => simp at h2
      | some r' =>
        split at e
        · rename_i es clock stamp hm hl
          obtain ⟨es', g1, g2⟩ := s.mapAt hm h2
          split at e
          · rename_i hc; subst hc
            split at e
            · rename_i en hf
              simp only [Option.some.injEq] at e; subst e
              obtain ⟨e', k1, k2, k3⟩ := find_rel (fun n => Nat.beq n stamp) g2 en hf
              have hb2 : seen.toArray.back? = some stamp := by simpa using hl
              have k1' : es'.find? (fun x => x.born == stamp) = some e' := by
                rw [← Array.find?_toList, ← k1]
                congr 1
                funext x
                rw [Bool.eq_iff_iff]; simp
              refine ⟨.tuple #[e'.key, e'.val], ?_, by simp [VRel, LRel, k2, k3]⟩
              simp [Instr.entry, h0, getObj, Sem.run, h1, g1, hl, k1']
            · cases e
          · cases e
        · cases e
    · cases e
  · cases e

theorem byteL_rel {ρ : Ren} : ∀ {l : List V} {m : List Nat} {l' : List Value}, byteL l = some m → LRel ρ l l' → ∃ bs : List UInt8, bs.map (·.toNat) = m ∧ l' = bs.map fun b => Value.int .u8 b.toNat
  | [], m, [], h, _ => by simp [byteL] at h; subst h; exact ⟨[], rfl, rfl⟩
  | v :: l, m, v' :: l', h, r => by
    simp only [LRel] at r
    unfold byteL at h
    split at h
    · rename_i heq; cases heq
    · rename_i n l0 heq
      simp only [List.cons.injEq] at heq; obtain ⟨rfl, rfl⟩ := heq
      split at h
      · rename_i hn
        simp only [Option.map_eq_some_iff] at h
        obtain ⟨m', h, rfl⟩ := h
        obtain ⟨bs, h1, h2⟩ := byteL_rel h r.2
        obtain rfl := inv_int r.1
        refine ⟨UInt8.ofNat n.toNat :: bs, ?_, ?_⟩
        · simp [h1]; omega
        · simp [h2]; omega
      · cases h
    · cases h
  | [], _, _ :: _, _, r => by simp [LRel] at r
  | _ :: _, _, [], _, r => by simp [LRel] at r

theorem push_bytes {P : Program} {w : World} : ∀ (bs : List UInt8) (s : ByteArray), (do
    let mut s := s
    for c in (bs.map fun b => Value.int .u8 b.toNat) do
      let .int .u8 n := c | stuck "bytesToString: byte expected"
      s := s.push (UInt8.ofNat n.toNat)
    pure (Value.string s) : Sem Value).run P w = .ok (.string ⟨s.data ++ bs.toArray⟩) w
  | [], s => by simp
  | b :: bs, s => by
    have ih := push_bytes (P := P) (w := w) bs (s.push b)
    simp only [List.map_cons, List.forIn_cons, Sem.run_bind] at ih ⊢
    simp at ih ⊢
    rw [ih]
    try simp [ByteArray.push]

theorem bytesStrV_ok {P : Program} {ρ : Ren} {h : H} {w : World} (s : Sim ρ h w) {sT d : Nat} {x v : V} {x' : Value} (e : bytesStrV P h sT d x = some v) (r : VRel ρ x x') : GivesV P (convert sT d x') w ρ v := by
  unfold bytesStrV at e
  split at e
  · rename_i el hs hd
    split at e
    · rename_i hu
      split at e
      · simp only [Option.some.injEq] at e; subst e
        obtain rfl := inv_nils r
        refine ⟨.string .empty, ?_, by simp [VRel, strOf]⟩
        simp [convert, run_und (elemSl_und hs), run_und hd, run_und hu, Conv.bytesToString]
      · rename_i sz b o l c
        obtain ⟨a, l', c', rfl, hr⟩ := inv_sl r
        have hl := hr.1; subst hl
        split at e
        · rename_i h0
          subst h0
          simp only [Option.some.injEq] at e; subst e
          refine ⟨.string .empty, ?_, by simp [VRel, strOf]⟩
          simp [convert, run_und (elemSl_und hs), run_und hd, run_und hu, Conv.bytesToString, loadCells, loadCellsFrom]
        · rename_i h0
          split at e
          · rename_i hsz
            split at e
            · rename_i e' cs opn ro hb
              split at e
              · rename_i hle
                simp only [Option.map_eq_some_iff] at e
                obtain ⟨m, hm, rfl⟩ := e
                have hp : PRel ρ b o a := by
                  rcases hr.2.2.2 with h1 | h1
                  · have := hr.2.1; omega
                  · exact h1.1
                obtain ⟨l2, g1, g2, g3⟩ := load_cells (P := P) s hb hp hle
                obtain ⟨bs, k1, k2⟩ := byteL_rel hm g2
                subst k2
                have hpb := push_bytes (P := P) (w := w) bs .empty
                refine ⟨.string ⟨bs.toArray⟩, ?_, by simp [VRel, strOf, k1]⟩
                simp only [convert, Sem.run_bind, run_und (elemSl_und hs), run_und hd, run_und hu, Result.andThen_ok, Conv.bytesToString, g1]
                simp at hpb ⊢
                exact hpb
              · cases e
            · cases e
          · cases e
      · cases e
    · cases e
  · cases e

theorem unsafeV_ok {P : Program} {ρ : Ren} {h : H} {w : World} (s : Sim ρ h w) {sT d : Nat} {x v : V} {x' : Value} (e : unsafeV P h sT d x = some v) (r : VRel ρ x x') : GivesV P (convert sT d x') w ρ v := by
  unfold unsafeV at e
  split at e
  · rename_i t hs hd
    simp only [Option.some.injEq] at e; subst e
    obtain rfl := inv_nilp r
    exact ⟨.pointer none, by simp [convert, run_und hs, run_und hd, Conv.unsafePointer], by simp [VRel]⟩
  · rename_i t b o hs hd
    obtain ⟨a, rfl, p⟩ := inv_ptr r
    split at e
    · rename_i el cs opn ro n hb hn
      split at e
      · rename_i hc
        simp only [Option.some.injEq] at e; subst e
        obtain ⟨W, hW, c, fr, h1, h2, h3, h4, h5, h6, h7⟩ := s.live b _ hb
        obtain rfl := p.addr hW
        refine ⟨.pointer (some ⟨W.blk, W.sh + o, none⟩), ?_, by simp only [VRel]; exact p⟩
        have hsh : w.shape? W.blk = some (el, c.size) := by simp [World.shape?, h1]
        have hlt : ¬ (c.size ≤ W.sh + o) := by omega
        simp [convert, run_und hs, run_und hd, Conv.unsafePointer, Conv.seenAt, viewAt, cellsIn, hsh, run_szOf hn, hc.1, hlt]
      · cases e
    · cases e
  · cases e

theorem ptrEqV_ok {P : Program} {ρ : Ren} {h : H} {w : World} (s : Sim ρ h w) {op : BinOp} {t : Nat} {x y : Operand} {a b v : V} {a' b' : Value} (e : ptrEqV P h op t a b = some v) (ra : VRel ρ a a') (rb : VRel ρ b b') :
    GivesV P (do eqGuard op t x y a' b'; binOp op t a' b') w ρ v := by
  unfold ptrEqV at e
  split at e
  · rename_i el b o b2 o2 hu
    split at e
    · rename_i n q1 q2 q3 q4 hs hb
      split at e
      · rename_i hbb; subst hbb
        obtain ⟨ad, rfl, p1⟩ := inv_ptr ra
        obtain ⟨ad2, rfl, p2⟩ := inv_ptr rb
        obtain ⟨W, hW, _⟩ := s.live _ _ hb
        obtain rfl := p1.addr hW
        obtain rfl := p2.addr hW
        have g := eqGuard_other (P := P) (w := w) (op := op) (t := t) (x := x) (y := y) (a := .pointer (some ⟨W.blk, W.sh + o, none⟩)) (b := .pointer (some ⟨W.blk, W.sh + o2, none⟩)) (.inr ⟨(fun h => by cases h), (fun _ _ h => by cases h)⟩)
        have hd : decide (W.sh + o = W.sh + o2) = Nat.beq o o2 := by
          cases hc : Nat.beq o o2 with
          | true => have := Nat.eq_of_beq_eq_true hc; simp [this]
          | false => have := Nat.ne_of_beq_eq_false hc; simp [this]
        have key : (Op.equal t (.pointer (some ⟨W.blk, W.sh + o, none⟩)) (.pointer (some ⟨W.blk, W.sh + o2, none⟩))).run P w = .ok (Nat.beq o o2) w := by
          have e1 : ((⟨W.blk, W.sh + o, none⟩ : Addr) == ⟨W.blk, W.sh + o2, none⟩) = Nat.beq o o2 := by
            rw [← hd, Bool.eq_iff_iff]; simp
          have gen : ∀ d, (Op.equalIn (d + 1) t (.pointer (some ⟨W.blk, W.sh + o, none⟩)) (.pointer (some ⟨W.blk, W.sh + o2, none⟩))).run P w = .ok (Nat.beq o o2) w := fun d => by
            simp [Op.equalIn, run_und hu, run_szOf hs, sameAddr, e1]
          exact gen 9999
        split at e
        · simp only [Option.some.injEq] at e; subst e
          have e2 : ∀ u v : Value, binOp .eql t u v = binOp .eql t u v := fun _ _ => rfl
          refine ⟨.bool (Nat.beq o o2), ?_, by simp [VRel]⟩
          have hb2 : binOp .eql t (.pointer (some ⟨W.blk, W.sh + o, none⟩)) (.pointer (some ⟨W.blk, W.sh + o2, none⟩)) = (do pure (.bool (← Op.equal t (.pointer (some ⟨W.blk, W.sh + o, none⟩)) (.pointer (some ⟨W.blk, W.sh + o2, none⟩))))) := rfl
          simp [g, hb2, key]
        · simp only [Option.some.injEq] at e; subst e
          refine ⟨.bool (!(Nat.beq o o2)), ?_, by simp [VRel]⟩
          have hb2 : binOp .neq t (.pointer (some ⟨W.blk, W.sh + o, none⟩)) (.pointer (some ⟨W.blk, W.sh + o2, none⟩)) = (do pure (.bool (!(← Op.equal t (.pointer (some ⟨W.blk, W.sh + o, none⟩)) (.pointer (some ⟨W.blk, W.sh + o2, none⟩)))))) := rfl
          simp [g, hb2, key]
        · cases e
      · cases e
    · cases e
  · cases e

theorem rdAll_ok {P : Program} {ρ : Ren} {h : H} {w : World} {nt G : Nat} {env : T V} {a : Act} (s : Sim ρ h w) (r : ERel ρ nt env a.tmps) (g : GOK ρ G) {o : Oper} {v : V} (e : rdAll P G h env o = some v) :
    Gives P (execOp a.eval o) w ρ v := by
  unfold rdAll at e
  split at e
  · rename_i t m k ok ho
    split at e
    · rename_i p q hp hq
      unfold execOp; rw [ho]
      exact GivesV.toNext (lookupV_ok s e (opV_rel r g hp) (opV_rel r g hq))
    · cases e
  · rename_i x ho
    split at e
    · rename_i p hp
      unfold execOp; rw [ho]
      exact GivesV.toNext (entryV_ok s e (opV_rel r g hp))
    · cases e
  · rename_i sT d x ho
    split at e
    · rename_i u hu
      simp only [Option.some.injEq] at e; subst e
      exact rdOp_ok s r g hu
    · split at e
      · rename_i p hp
        unfold execOp; rw [ho]
        split at e
        · rename_i u hu
          simp only [Option.some.injEq] at e; subst e
          exact GivesV.toNext (bytesStrV_ok s hu (opV_rel r g hp))
        · exact GivesV.toNext (unsafeV_ok s e (opV_rel r g hp))
      · cases e
  · rename_i op t x y yt ho
    split at e
    · rename_i u hu
      simp only [Option.some.injEq] at e; subst e
      exact rdOp_ok s r g hu
    · split at e
      · rename_i p q hp hq
        unfold execOp; rw [ho]
        exact GivesV.toNext (ptrEqV_ok s e (opV_rel r g hp) (opV_rel r g hq))
      · cases e
  · exact rdOp_ok s r g e

theorem alOp_ok {P : Program} {ρ : Ren} {h h' : H} {w : World} {nt G : Nat} {env : T V} {a : Act} (s : Sim ρ h w) (f : Fresh ρ h h') (r : ERel ρ nt env a.tmps) (g : GOK ρ G) {o : Oper} {v : V} (e : alOp P G h env o = some (v, h')) :
    Moves P (execOp a.eval o) w ρ h v h' := by
  unfold alOp at e
  unfold execOp
  split at e
  · rename_i t ho; rw [ho]; exact (allocV_ok e s f).toNext
  · rename_i t x ho
    rw [ho]
    split at e
    · rename_i u hu
      simp only [boxV, Option.some.injEq, Prod.mk.injEq] at e; obtain ⟨rfl, rfl⟩ := e
      exact (newVar_ok s (f.one (by simp)) (opV_rel r g hu)).toNext
    · cases e
  · rename_i t n ps ho
    rw [ho]
    split at e
    · rename_i l hl
      refine (buildSliceV_ok e s f ?_).toNext
      have := opP_rel r g hl
      simpa [Array.toList_map] using this
    · cases e
  · rename_i t l c ho
    rw [ho]
    split at e
    · rename_i p q hp hq
      exact (makeSliceV_ok e s f (opV_rel r g hp) (opV_rel r g hq)).toNext
    · cases e
  · rename_i sT d x ho
    rw [ho]
    split at e
    · rename_i p hp
      exact (strBytesV_ok e s f (opV_rel r g hp)).toNext
    · cases e
  · rename_i t m ho
    rw [ho]
    split at e
    · rename_i x hx
      split at e
      · rename_i hc
        simp only [makeMapV, Option.some.injEq, Prod.mk.injEq] at e; obtain ⟨rfl, rfl⟩ := e
        simp only [Bool.and_eq_true] at hc
        refine (makeMapV_ok hc.1 (fun v hv => ?_) (optV_rel r g hx) s (f.one (by simp))).toNext
        subst hv
        cases v <;> simp [hintOk] at hc
        exact ⟨_, _, rfl⟩
      · cases e
    · cases e
  · cases e

end Go.Proofs.YtgihdlhoaimlpaaGreatDoor.AM
