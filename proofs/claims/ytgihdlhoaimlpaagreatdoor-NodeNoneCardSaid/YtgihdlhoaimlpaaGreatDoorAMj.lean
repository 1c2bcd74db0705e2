/- The abstract machine: all operations that leave the world as it is. -/
import Derived.Test.YtgihdlhoaimlpaaGreatDoorAMi
namespace Go.Proofs.YtgihdlhoaimlpaaGreatDoor.AM
set_option autoImplicit false
set_option linter.unusedSimpArgs false
set_option linter.unusedVariables false

def convV (P : Program) (s d : Nat) (x : V) : Option V := match P.underlying s, P.underlying d, x with
  | some _, some (.int k), .int _ n => some (.int k (k.wrap n))
  | some _, some .string, .str s => some (.str s)
  | some _, some .string, .int _ n => if 0 ≤ n ∧ n < 128 then some (.str [n.toNat]) else none
  | _, _, _ => none

theorem encode_plain {n : Int} (h0 : 0 ≤ n) (h : n < 128) : strOf (Utf8.encode n) = [n.toNat] := by
  have hv : Utf8.valid n = true := by simp [Utf8.valid]; omega
  simp only [Utf8.encode, hv, if_true]
  rw [if_pos (by omega)]
  simp [strOf]
  omega

theorem convV_ok {P : Program} {ρ : Ren} {w : World} {s d : Nat} {x : V} {x' : Value} {v : V} (h : convV P s d x = some v) (r : VRel ρ x x') : GivesV P (convert s d x') w ρ v := by
  unfold convV at h
  split at h
  · rename_i ds k k0 n h1 h2
    simp only [Option.some.injEq] at h; subst h
    obtain rfl := inv_int r
    exact ⟨.int k (k.wrap n), by simp [convert, run_und h1, run_und h2, Conv.intToInt], by simp [VRel]⟩
  · rename_i ds s h1 h2
    simp only [Option.some.injEq] at h; subst h
    obtain ⟨s', rfl, e⟩ := inv_str r
    exact ⟨.string s', by simp [convert, run_und h1, run_und h2], by simp [VRel, e]⟩
  · rename_i ds k n h1 h2
    obtain rfl := inv_int r
    split at h
    · rename_i hn
      simp only [Option.some.injEq] at h; subst h
      exact ⟨.string (Utf8.encode n), by simp [convert, run_und h1, run_und h2, Conv.intToString], by simp [VRel, encode_plain hn.1 hn.2]⟩
    · cases h
  · cases h

def assertV (P : Program) (t : Nat) (ok : Bool) (x : V) : Option V := match P.underlying t, x with
  | some (.interface _), _ => none
  | some _, .iface t' v => if t' = t then some (if ok then .tup [v, .bool true] else v) else if ok then (zeroV P t).map fun z => .tup [z, .bool false] else none
  | some _, .nili => if ok then (zeroV P t).map fun z => .tup [z, .bool false] else none
  | _, _ => none

def lenV (P : Program) (h : H) (t : Nat) (x : V) : Option V := match P.underlying t, x with
  | some .string, .str s => some (.int .i64 s.length)
  | some (.array n _), _ => some (.int .i64 n)
  | some (.pointer a), _ => (match P.underlying a with
    | some (.array n _) => some (.int .i64 n)
    | _ => none)
  | some (.slice _), .sl _ _ _ l _ => some (.int .i64 l)
  | some (.slice _), .nils => some (.int .i64 0)
  | some (.map _ _), .nilm => some (.int .i64 0)
  | some (.map _ _), .map b => (match h.get b with
    | some (.map es _) => some (.int .i64 es.length)
    | _ => none)
  | _, _ => none

theorem EntsRel.length {ρ : Ren} : ∀ {l : List (V × V × Nat)} {l' : List MapEntry}, EntsRel ρ l l' → l'.length = l.length
  | [], [], _ => rfl
  | (_, _, _) :: _, _ :: _, r => by simp only [EntsRel] at r; simp [EntsRel.length r.2.2.2]
  | [], _ :: _, r => by simp [EntsRel] at r
  | _ :: _, [], r => by simp [EntsRel] at r

theorem Sim.mapAt {ρ : Ren} {h : H} {w : World} (s : Sim ρ h w) {b : Nat} {es : List (V × V × Nat)} {clock : Nat} (hb : h.get b = some (.map es clock)) {r : Nat}
    (q : ρ b = some none ∨ ∃ W, ρ b = some (some W) ∧ r = W.blk) : ∃ es', w.heap[r]? = some (.map es' clock) ∧ EntsRel ρ es es'.toList := by
  obtain ⟨W, hW, _, es', h1, h2⟩ := s.live b _ hb
  rcases q with q | ⟨U, q, rfl⟩
  · rw [hW] at q; simp at q
  · rw [hW] at q; simp at q; subst q; exact ⟨es', h1, h2⟩

theorem lenV_ok {P : Program} {ρ : Ren} {h : H} {w : World} (s : Sim ρ h w) {t ty : Nat} {ats : Array TypeId} {x : V} {x' : Value} {v : V} (e : lenV P h t x = some v) (r : VRel ρ x x') (ht : ats[0]? = some t) :
    GivesV P (Builtin.len_ ats ty #[x']) w ρ v := by
  unfold lenV at e
  split at e
  · rename_i s hu
    simp only [Option.some.injEq] at e; subst e
    obtain ⟨s', rfl, rfl⟩ := inv_str r
    exact ⟨goInt s'.size, by simp [Builtin.len_, ht, run_und hu], by simp [VRel, goInt, strOf_length]⟩
  · rename_i n el hu
    simp only [Option.some.injEq] at e; subst e
    exact ⟨goInt n, by simp [Builtin.len_, ht, run_und hu], by simp [VRel, goInt]⟩
  · rename_i a hu
    split at e
    · rename_i n el hu2
      simp only [Option.some.injEq] at e; subst e
      exact ⟨goInt n, by simp [Builtin.len_, ht, run_und hu, run_und hu2], by simp [VRel, goInt]⟩
    · cases e
  · rename_i el sz b o l c hu
    simp only [Option.some.injEq] at e; subst e
    obtain ⟨a, l', c', rfl, hr⟩ := inv_sl r
    have := hr.1; subst this
    exact ⟨goInt l', by simp [Builtin.len_, ht, run_und hu], by simp [VRel, goInt]⟩
  · rename_i el hu
    simp only [Option.some.injEq] at e; subst e
    obtain rfl := inv_nils r
    exact ⟨goInt 0, by simp [Builtin.len_, ht, run_und hu], by simp [VRel, goInt]⟩
  · rename_i k el hu
    simp only [Option.some.injEq] at e; subst e
    obtain rfl := inv_nilm r
    exact ⟨goInt 0, by simp [Builtin.len_, ht, run_und hu], by simp [VRel, goInt]⟩
  · rename_i k el b hu
    split at e
    · rename_i es clock hb
      simp only [Option.some.injEq] at e; subst e
      obtain ⟨r', rfl, q⟩ := inv_map r
      obtain ⟨es', h1, h2⟩ := s.mapAt hb q
      have := h2.length
      rw [Array.length_toList] at this
      exact ⟨goInt es'.size, by simp [Builtin.len_, ht, run_und hu, getObj, Sem.run, h1], by simp [VRel, goInt, this]⟩
    · cases e
  · cases e

def mmV (mx : Bool) : V → V → Option V
  | .int k x, .int _ y => some (.int k (if (if mx then x < y else y < x) then y else x))
  | _, _ => none

theorem mmV_min {P : Program} {ρ : Ren} {w : World} {x y v : V} {x' y' : Value} (h : mmV false x y = some v) (r : VRel ρ x x') (q : VRel ρ y y') : GivesV P (Builtin.min2 x' y') w ρ v := by
  unfold mmV at h
  split at h
  · obtain rfl := inv_int r; obtain rfl := inv_int q
    simp only [Option.some.injEq] at h; subst h
    exact ⟨_, by simp [Builtin.min2]; rfl, by simp [VRel]⟩
  · cases h

theorem mmV_max {P : Program} {ρ : Ren} {w : World} {x y v : V} {x' y' : Value} (h : mmV true x y = some v) (r : VRel ρ x x') (q : VRel ρ y y') : GivesV P (Builtin.max2 x' y') w ρ v := by
  unfold mmV at h
  split at h
  · obtain rfl := inv_int r; obtain rfl := inv_int q
    simp only [Option.some.injEq] at h; subst h
    exact ⟨_, by simp [Builtin.max2]; rfl, by simp [VRel]⟩
  · cases h

def mmsV (mx : Bool) : V → List V → Option V
  | x, [] => some x
  | x, y :: l => match mmV mx x y with
    | some z => mmsV mx z l
    | none => none

theorem mmsV_min {P : Program} {ρ : Ren} {w : World} : ∀ {l : List V} {l' : List Value} {x v : V} {x' : Value}, mmsV false x l = some v → VRel ρ x x' → LRel ρ l l' → GivesV P (l'.foldlM Builtin.min2 x') w ρ v
  | [], [], x, v, x', h, r, _ => by simp [mmsV] at h; subst h; exact ⟨x', by simp, r⟩
  | y :: l, y' :: l', x, v, x', h, r, q => by
    simp only [LRel] at q
    simp only [mmsV] at h
    split at h
    · rename_i z hz
      obtain ⟨z', h1, h2⟩ := mmV_min (P := P) (w := w) hz r q.1
      obtain ⟨v', h3, h4⟩ := mmsV_min (P := P) (w := w) h h2 q.2
      exact ⟨v', by simp [h1, h3], h4⟩
    · cases h
  | [], _ :: _, _, _, _, _, _, q => by simp [LRel] at q
  | _ :: _, [], _, _, _, _, _, q => by simp [LRel] at q

theorem mmsV_max {P : Program} {ρ : Ren} {w : World} : ∀ {l : List V} {l' : List Value} {x v : V} {x' : Value}, mmsV true x l = some v → VRel ρ x x' → LRel ρ l l' → GivesV P (l'.foldlM Builtin.max2 x') w ρ v
  | [], [], x, v, x', h, r, _ => by simp [mmsV] at h; subst h; exact ⟨x', by simp, r⟩
  | y :: l, y' :: l', x, v, x', h, r, q => by
    simp only [LRel] at q
    simp only [mmsV] at h
    split at h
    · rename_i z hz
      obtain ⟨z', h1, h2⟩ := mmV_max (P := P) (w := w) hz r q.1
      obtain ⟨v', h3, h4⟩ := mmsV_max (P := P) (w := w) h h2 q.2
      exact ⟨v', by simp [h1, h3], h4⟩
    · cases h
  | [], _ :: _, _, _, _, _, _, q => by simp [LRel] at q
  | _ :: _, [], _, _, _, _, _, q => by simp [LRel] at q

/-- A load. -/
def loadV (P : Program) (h : H) (t : Nat) (x : V) : Option V := match x with
  | .ptr b o => (match h.get b with
    | some (.row _ cs _ _) => (match aggB P t, szOf P t with
      | some true, some n => if o + n ≤ cs.length then some (.agg ((cs.drop o).take n)) else none
      | some false, _ => cs[o]?
      | _, _ => none)
    | _ => none)
  | _ => none

theorem loadV_ok {P : Program} {ρ : Ren} {h : H} {w : World} (s : Sim ρ h w) {t : Nat} {x : V} {x' : Value} {v : V} (e : loadV P h t x = some v) (r : VRel ρ x x') : GivesV P (Instr.loadAt t x') w ρ v := by
  unfold loadV at e
  split at e
  · rename_i b o
    obtain ⟨a, rfl, p⟩ := inv_ptr r
    split at e
    · rename_i el cs opn ro hb
      split at e
      · rename_i n h1 h2
        split at e
        · rename_i hn
          simp only [Option.some.injEq] at e; subst e
          obtain ⟨l', g1, g2, g3⟩ := load_cells (P := P) s hb p hn
          exact ⟨.agg l'.toArray, by simp [Instr.loadAt, Instr.sureAddr, loadVar, run_aggB h1, run_szOf h2, g1], by simpa [VRel] using g2⟩
        · cases e
      · rename_i h1
        obtain ⟨v', g1, g2⟩ := load_cell (P := P) s hb p e
        exact ⟨v', by simp only [Instr.loadAt, Instr.sureAddr, loadVar, Sem.run_bind, Sem.run_pure, Result.andThen_ok, run_aggB h1]; exact g1, g2⟩
      · cases e
    · cases e
  · cases e

/-- All operations that leave the world as it is. -/
def rdOp (P : Program) (G : Nat) (h : H) (env : T V) (o : Oper) : Option V := match o.op with
  | .move x | .assign x => opV G env x
  | .pick c a b => (match opV G env c with
    | some (.bool true) => opV G env a
    | some (.bool false) => opV G env b
    | _ => none)
  | .nilCheck x => (match opV G env x with
    | some (.ptr b i) => some (.ptr b i)
    | some (.fn f l m) => some (.fn f l m)
    | some (.iface t v) => some (.iface t v)
    | _ => none)
  | .binOp op t x y _ => (match opV G env x, opV G env y with
    | some a, some b => binV P (isC x || isC y) op t a b
    | _, _ => none)
  | .unOp u _ x => (match opV G env x with
    | some a => unV u a
    | none => none)
  | .convert s d x => (match opV G env x with
    | some a => convV P s d a
    | none => none)
  | .makeInterface t x => (match P.underlying t with
    | some (.interface _) => none
    | some _ => (opV G env x).map (.iface t)
    | none => none)
  | .makeFunc (.func f) l m => (match opL G env l.toList, opL G env m.toList with
    | some x, some y => some (.fn f x y)
    | _, _ => none)
  | .fieldAddr s x i => (match fieldsOf P s, opV G env x with
    | some fs, some (.ptr b k) => (match fs[i]? with
      | some f => (match szOf P f.type with
        | some n => if n = 0 then none else some (.ptr b (k + f.offset))
        | none => none)
      | none => none)
    | _, _ => none)
  | .field t x i => (match fieldsOf P t, opV G env x with
    | some fs, some (.agg l) => (match fs[i]? with
      | some f => partV P f.type l f.offset
      | none => none)
    | _, _ => none)
  | .indexAddr t x i => (match opV G env x, opV G env i with
    | some a, some b => idxAddrV P t a b
    | _, _ => none)
  | .index t x i => (match opV G env x, opV G env i with
    | some a, some b => indexV P t a b
    | _, _ => none)
  | .slice t x lo hi mx => (match opV G env x, optV G env lo, optV G env hi, optV G env mx with
    | some a, some l, some k, some m => sliceV P t a l k m
    | _, _, _, _ => none)
  | .build t ps => (match opP G env ps.toList with
    | some l => buildV P t l
    | none => none)
  | .extract x i => (match opV G env x with
    | some (.tup l) => l[i]?
    | _ => none)
  | .typeAssert x _ t ok => (match opV G env x with
    | some a => assertV P t ok a
    | none => none)
  | .load t x => (match opV G env x with
    | some a => loadV P h t a
    | none => none)
  | .call c => (match c.callee, c.args.toList with
    | .builtin .len, [x] => (match opV G env x, c.argTypes[0]? with
      | some a, some t => lenV P h t a
      | _, _ => none)
    | .builtin .min, x :: l => (match opV G env x, opL G env l with
      | some a, some m => mmsV false a m
      | _, _ => none)
    | .builtin .max, x :: l => (match opV G env x, opL G env l with
      | some a, some m => mmsV true a m
      | _, _ => none)
    | _, _ => none)
  | _ => none

theorem rdOp_ok {P : Program} {ρ : Ren} {h : H} {w : World} {nt G : Nat} {env : T V} {a : Act} (s : Sim ρ h w) (r : ERel ρ nt env a.tmps) (g : GOK ρ G) {o : Oper} {v : V} (e : rdOp P G h env o = some v) :
    Gives P (execOp a.eval o) w ρ v := by
  unfold rdOp at e
  unfold execOp
  split at e
  · rename_i x ho; rw [ho]; exact ⟨_, rfl, opV_rel r g e⟩
  · rename_i x ho; rw [ho]; exact ⟨_, rfl, opV_rel r g e⟩
  · rename_i c x y ho
    rw [ho]
    split at e
    · rename_i hc
      have := inv_bool (opV_rel r g hc)
      exact ⟨_, by simp [this, asBool], opV_rel r g e⟩
    · rename_i hc
      have := inv_bool (opV_rel r g hc)
      exact ⟨_, by simp [this, asBool], opV_rel r g e⟩
    · cases e
  · rename_i x ho
    rw [ho]
    split at e
    · rename_i b i hx
      simp only [Option.some.injEq] at e; subst e
      obtain ⟨p, h1, h2⟩ := inv_ptr (opV_rel r g hx)
      exact ⟨.pointer (some p), by simp [h1], by simpa only [VRel] using h2⟩
    · rename_i f l m hx
      simp only [Option.some.injEq] at e; subst e
      obtain ⟨x', y', h1, h2⟩ := inv_fn (opV_rel r g hx)
      exact ⟨.func (.func f) x' y', by simp [h1], by simp only [VRel]; exact ⟨trivial, h2⟩⟩
    · rename_i t u hx
      simp only [Option.some.injEq] at e; subst e
      obtain ⟨u', h1, h2⟩ := inv_iface (opV_rel r g hx)
      exact ⟨.iface t u', by simp [h1], by simp only [VRel]; exact ⟨trivial, h2⟩⟩
    · cases e
  · rename_i op t x y yt ho
    rw [ho]
    split at e
    · rename_i p q hp hq
      exact GivesV.toNext (binV_ok e (opV_rel r g hp) (opV_rel r g hq))
    · cases e
  · rename_i u t x ho
    rw [ho]
    split at e
    · rename_i p hp
      exact GivesV.toNext (unV_ok e (opV_rel r g hp))
    · cases e
  · rename_i s0 d x ho
    rw [ho]
    split at e
    · rename_i p hp
      exact GivesV.toNext (convV_ok e (opV_rel r g hp))
    · cases e
  · rename_i t x ho
    rw [ho]
    split at e
    · cases e
    · rename_i d hd hu
      simp only [Option.map_eq_some_iff] at e
      obtain ⟨u, hu', rfl⟩ := e
      refine GivesV.toNext ⟨.iface t (a.eval x), ?_, by simp only [VRel]; exact ⟨trivial, opV_rel r g hu'⟩⟩
      simp only [Instr.makeInterface, Sem.run_bind, run_und hu, Result.andThen_ok]
      cases d <;> first | rfl | exact absurd rfl (hd _)
    · cases e
  · rename_i f l m ho
    rw [ho]
    split at e
    · rename_i x y h1 h2
      simp only [Option.some.injEq] at e; subst e
      refine GivesV.toNext ⟨.func (.func f) (l.map a.eval) (m.map a.eval), rfl, ?_⟩
      simp only [VRel, Array.toList_map]
      exact ⟨trivial, opL_rel r g h1, opL_rel r g h2⟩
    · cases e
  · rename_i t x i ho
    rw [ho]
    split at e
    · rename_i fs b k hf hx
      obtain ⟨p, h1, h2⟩ := inv_ptr (opV_rel r g hx)
      split at e
      · rename_i f hfi
        split at e
        · rename_i n hn
          split at e
          · cases e
          · rename_i hn0
            simp only [Option.some.injEq] at e; subst e
            refine GivesV.toNext ⟨.pointer (some (p.add f.offset)), ?_, by simp only [VRel]; exact h2.add⟩
            simp [Instr.fieldAt, run_und (fieldsOf_und hf), hfi, h1, Instr.sureAddr, fieldPlace, run_szOf hn, hn0]
        · cases e
      · cases e
    · cases e
  · rename_i t x i ho
    rw [ho]
    split at e
    · rename_i fs l hf hx
      obtain ⟨l', h1, h2⟩ := inv_agg (opV_rel r g hx)
      split at e
      · rename_i f hfi
        obtain ⟨v', g1, g2⟩ := partV_ok (w := w) e h2
        exact GivesV.toNext ⟨v', by simp [Instr.field, run_und (fieldsOf_und hf), hfi, h1, asAgg, g1], g2⟩
      · cases e
    · cases e
  · rename_i t x i ho
    rw [ho]
    split at e
    · rename_i p q hp hq
      exact GivesV.toNext (idxAddrV_ok e (opV_rel r g hp) (opV_rel r g hq))
    · cases e
  · rename_i t x i ho
    rw [ho]
    split at e
    · rename_i p q hp hq
      exact GivesV.toNext (indexV_ok e (opV_rel r g hp) (opV_rel r g hq))
    · cases e
  · rename_i t x lo hi mx ho
    rw [ho]
    split at e
    · rename_i p l k m hp hl hk hm
      exact GivesV.toNext (sliceV_ok e (opV_rel r g hp) (optV_rel r g hl) (optV_rel r g hk) (optV_rel r g hm))
    · cases e
  · rename_i t ps ho
    rw [ho]
    split at e
    · rename_i l hl
      refine GivesV.toNext (buildV_ok e ?_)
      have := opP_rel r g hl
      simpa [Array.toList_map] using this
    · cases e
  · rename_i x i ho
    rw [ho]
    split at e
    · rename_i l hl
      obtain ⟨l', h1, h2⟩ := inv_tup (opV_rel r g hl)
      obtain ⟨v', g1, g2⟩ := h2.get i v e
      have g1' : l'[i]? = some v' := by simpa using g1
      exact GivesV.toNext ⟨v', by simp [h1, Instr.extract, g1'], g2⟩
    · cases e
  · rename_i x xt t ok ho
    rw [ho]
    split at e
    · rename_i p hp
      have rp := opV_rel r g hp
      refine GivesV.toNext ?_
      unfold assertV at e
      split at e
      · cases e
      · rename_i d t' u hd hu
        obtain ⟨u', h1, h2⟩ := inv_iface rp
        split at e
        · rename_i ht
          subst ht
          simp only [Option.some.injEq] at e; subst e
          cases ok
          · refine ⟨u', ?_, h2⟩
            simp only [Instr.typeAssert, Sem.run_bind, run_und hu, Result.andThen_ok, h1]
            cases d <;> first | (simp; done) | exact absurd rfl (hd _)
          · refine ⟨.tuple #[u', .bool true], ?_, by simp [VRel, LRel, h2]⟩
            simp only [Instr.typeAssert, Sem.run_bind, run_und hu, Result.andThen_ok, h1]
            cases d <;> first | (simp; done) | exact absurd rfl (hd _)
        · rename_i ht
          split at e
          · rename_i hk
            simp only [Option.map_eq_some_iff] at e
            obtain ⟨z, hz, rfl⟩ := e
            obtain ⟨z', z1, z2⟩ := zeroV_ok (ρ := ρ) (w := w) hz
            refine ⟨.tuple #[z', .bool false], ?_, by simp [VRel, LRel, z2]⟩
            simp only [Instr.typeAssert, Sem.run_bind, run_und hu, Result.andThen_ok, h1]
            cases d <;> first | (simp [ht, hk, z1]; done) | exact absurd rfl (hd _)
          · cases e
      · rename_i d hd hu
        have h1 := inv_nili rp
        split at e
        · rename_i hk
          simp only [Option.map_eq_some_iff] at e
          obtain ⟨z, hz, rfl⟩ := e
          obtain ⟨z', z1, z2⟩ := zeroV_ok (ρ := ρ) (w := w) hz
          refine ⟨.tuple #[z', .bool false], ?_, by simp [VRel, LRel, z2]⟩
          simp only [Instr.typeAssert, Sem.run_bind, run_und hu, Result.andThen_ok, h1]
          cases d <;> first | (simp [hk, z1]; done) | exact absurd rfl (hd _)
        · cases e
      · cases e
    · cases e
  · rename_i t x ho
    rw [ho]
    split at e
    · rename_i p hp
      exact GivesV.toNext (loadV_ok s e (opV_rel r g hp))
    · cases e
  · rename_i c ho
    rw [ho]
    split at e
    · rename_i x hc hargs
      split at e
      · rename_i p t hp ht
        obtain ⟨v', g1, g2⟩ := lenV_ok (ty := o.type) s e (opV_rel r g hp) ht
        refine ⟨v', ?_, g2⟩
        have : c.args.map a.eval = #[a.eval x] := by
          apply Array.ext'; simp [Array.toList_map, hargs]
        simp [resolve, hc, invoke, builtin, this, g1]
      · cases e
    · rename_i x l hc hargs
      split at e
      · rename_i p m hp hm
        obtain ⟨v', g1, g2⟩ := mmsV_min (P := P) (w := w) e (opV_rel r g hp) (opL_rel r g hm)
        refine ⟨v', ?_, g2⟩
        have : (c.args.map a.eval).toList = a.eval x :: l.map a.eval := by simp [Array.toList_map, hargs]
        simp only [resolve, hc, Sem.run_bind, Sem.run_pure, Result.andThen_ok, invoke, builtin, Builtin.min_, this, g1]
      · cases e
    · rename_i x l hc hargs
      split at e
      · rename_i p m hp hm
        obtain ⟨v', g1, g2⟩ := mmsV_max (P := P) (w := w) e (opV_rel r g hp) (opL_rel r g hm)
        refine ⟨v', ?_, g2⟩
        have : (c.args.map a.eval).toList = a.eval x :: l.map a.eval := by simp [Array.toList_map, hargs]
        simp only [resolve, hc, Sem.run_bind, Sem.run_pure, Result.andThen_ok, invoke, builtin, Builtin.max_, this, g1]
      · cases e
    · cases e
  · cases e

end Go.Proofs.YtgihdlhoaimlpaaGreatDoor.AM
