/- NodeNone: for every input the law returns true, and the input reads as it did. -/
import Derived.Test.YtgihdlhoaimlpaaGreatDoorNNtop
import Derived.Test.YtgihdlhoaimlpaaGreatDoorAMzm
import Derived.Test.YtgihdlhoaimlpaaGreatDoorCards
import Derived.Test.YtgihdlhoaimlpaaGreatDoorTie
import Derived.WalkKit
import Derived.ProofKit
import Derived.OpenShut
import Derived.Deep.DeepHandedRow
namespace Go.Proofs.YtgihdlhoaimlpaaGreatDoor.nodeNone
open Go.ChangeShapes Go.WideShapes Go.ChangeAt Go.RowKit Go.Proofs.YtgihdlhoaimlpaaGreatDoor.AM
set_option maxRecDepth 100000

theorem own : ownKnob Tryz.prog.godebug = none := by kernel_rfl
theorem mixed : Tryz.prog.follows .mixedOrders = true := by kernel_rfl
theorem plainAll : (Tryz.prog.funcs.toList.all fun fn => !fn.body.isSome || !(fn.name == "runtime.NumGoroutine")) = true := by kernel_rfl
theorem plainP : Plain Tryz.prog := fun f fn hf hb => by
  have := List.all_eq_true.1 plainAll fn (List.mem_of_getElem? (i := f) (by simpa using hf))
  simpa [hb] using this
theorem x206 : Extn Tryz.prog 206 Extern.Atomic.storeT := ⟨_, Tryz.func206, by kernel_rfl, by kernel_rfl, by kernel_rfl, by kernel_rfl⟩
theorem x233 : Extn Tryz.prog 233 (Extern.Atomic.loadT (.int .u64)) := ⟨_, Tryz.func233, by kernel_rfl, by kernel_rfl, by kernel_rfl, by kernel_rfl⟩
theorem x349 : Extn Tryz.prog 349 (Extern.Atomic.casT (.int .u64)) := ⟨_, Tryz.func349, by kernel_rfl, by kernel_rfl, by kernel_rfl, by kernel_rfl⟩
theorem x362 : Extn Tryz.prog 362 (Extern.Atomic.loadT (.int .u32)) := ⟨_, Tryz.func362, by kernel_rfl, by kernel_rfl, by kernel_rfl, by kernel_rfl⟩
theorem x373 : Extn Tryz.prog 373 Extern.Atomic.storeT := ⟨_, Tryz.func373, by kernel_rfl, by kernel_rfl, by kernel_rfl, by kernel_rfl⟩
theorem x377 : Extn Tryz.prog 377 (fun _ => do mark .disable; pure Extern.Race.none_) := ⟨_, Tryz.func377, by kernel_rfl, by kernel_rfl, by kernel_rfl, by kernel_rfl⟩
theorem x378 : Extn Tryz.prog 378 (Extern.Atomic.casT (.int .i32)) := ⟨_, Tryz.func378, by kernel_rfl, by kernel_rfl, by kernel_rfl, by kernel_rfl⟩
theorem x379 : Extn Tryz.prog 379 (fun _ => do mark .enable; pure Extern.Race.none_) := ⟨_, Tryz.func379, by kernel_rfl, by kernel_rfl, by kernel_rfl, by kernel_rfl⟩
theorem x380 : Extn Tryz.prog 380 (Extern.Race.marked .acquire) := ⟨_, Tryz.func380, by kernel_rfl, by kernel_rfl, by kernel_rfl, by kernel_rfl⟩
theorem x382 : Extn Tryz.prog 382 (Extern.Race.marked .releaseMerge) := ⟨_, Tryz.func382, by kernel_rfl, by kernel_rfl, by kernel_rfl, by kernel_rfl⟩
theorem x383 : Extn Tryz.prog 383 (Extern.Atomic.update (Op.intArith .add) .i32 true) := ⟨_, Tryz.func383, by kernel_rfl, by kernel_rfl, by kernel_rfl, by kernel_rfl⟩
theorem a206 : AnsOK Tryz.prog 6 206 storeX := storeX_ok (P := Tryz.prog) (G := 6) (f := 206) x206
theorem a233 : AnsOK Tryz.prog 6 233 (loadX .u64) := loadX_ok (P := Tryz.prog) (G := 6) (f := 233) x233
theorem a349 : AnsOK Tryz.prog 6 349 (casX .u64) := casX_ok (P := Tryz.prog) (G := 6) (f := 349) x349
theorem a362 : AnsOK Tryz.prog 6 362 (loadX .u32) := loadX_ok (P := Tryz.prog) (G := 6) (f := 362) x362
theorem a373 : AnsOK Tryz.prog 6 373 storeX := storeX_ok (P := Tryz.prog) (G := 6) (f := 373) x373
theorem a377 : AnsOK Tryz.prog 6 377 mark0X := mark0X_ok (P := Tryz.prog) (G := 6) (f := 377) x377
theorem a378 : AnsOK Tryz.prog 6 378 (casX .i32) := casX_ok (P := Tryz.prog) (G := 6) (f := 378) x378
theorem a379 : AnsOK Tryz.prog 6 379 mark0X := mark0X_ok (P := Tryz.prog) (G := 6) (f := 379) x379
theorem a380 : AnsOK Tryz.prog 6 380 markX := markX_ok (P := Tryz.prog) (G := 6) (f := 380) x380
theorem a382 : AnsOK Tryz.prog 6 382 markX := markX_ok (P := Tryz.prog) (G := 6) (f := 382) x382
theorem a383 : AnsOK Tryz.prog 6 383 (addX .i32) := addX_ok (P := Tryz.prog) (G := 6) (f := 383) x383
theorem ok_l0 : ∀ y ∈ l0, AnsOK Tryz.prog 6 y.1 y.2 := by
  intro y hy
  simp only [l0, List.mem_cons, List.not_mem_nil, or_false] at hy
  rcases hy with rfl | rfl | rfl | rfl | rfl | rfl | rfl | rfl | rfl | rfl | rfl
  · exact a206
  · exact a233
  · exact a349
  · exact a362
  · exact a373
  · exact a377
  · exact a378
  · exact a379
  · exact a380
  · exact a382
  · exact a383
theorem n_l0 : ∀ y ∈ l0, AnsN y.2 := by
  intro y hy
  simp only [l0, List.mem_cons, List.not_mem_nil, or_false] at hy
  rcases hy with rfl | rfl | rfl | rfl | rfl | rfl | rfl | rfl | rfl | rfl | rfl
  · exact storeX_n
  · exact loadX_n _
  · exact casX_n _
  · exact loadX_n _
  · exact storeX_n
  · exact mark0X_n
  · exact casX_n _
  · exact mark0X_n
  · exact markX_n
  · exact markX_n
  · exact addX_n _
theorem ok_of {l : List (Nat × (List V → H → Option (V × H)))} {n : Nat} (a : ∀ y ∈ l, AnsOK Tryz.prog 6 y.1 y.2) (b : ∀ y ∈ l, AnsN y.2) : CallOK Tryz.prog 6 (fun f => (fcl Tryz.prog 6 (extOf l) n f).run) :=
  fun f args h v h' e => evF_ok plainP (extOf_ok a) (extOf_n b) (allDraws mixed) n f args h v h' (by rw [← fcl_eq]; exact e)
theorem n_of {l : List (Nat × (List V → H → Option (V × H)))} {n : Nat} (b : ∀ y ∈ l, AnsN y.2) : CallN (fun f => (fcl Tryz.prog 6 (extOf l) n f).run) :=
  fun f args h v h' e => evF_n (P := Tryz.prog) (G := 6) (extOf_n b) n f args h v h' (by rw [← fcl_eq]; exact e)
theorem ok_c0 : CallOK Tryz.prog 6 c0 := ok_of ok_l0 n_l0
theorem n_c0 : CallN c0 := n_of n_l0
theorem ok_l1 : ∀ y ∈ l1, AnsOK Tryz.prog 6 y.1 y.2 := by
  intro y hy
  rcases List.mem_cons.1 hy with rfl | hy
  · exact joinX_ok plainP ok_c0 n_c0 fun nt => allDraws mixed c0 ok_c0 n_c0 nt
  · rcases List.mem_cons.1 hy with rfl | hy
    · exact seqX_ok plainP ok_c0 n_c0 fun nt => allDraws mixed c0 ok_c0 n_c0 nt
    · exact ok_l0 y hy
theorem n_l1 : ∀ y ∈ l1, AnsN y.2 := by
  intro y hy
  rcases List.mem_cons.1 hy with rfl | hy
  · exact joinX_n (P := Tryz.prog) (G := 6) (lf := 200) (f := 215) (part := partD) n_c0
  · rcases List.mem_cons.1 hy with rfl | hy
    · exact seqX_n (P := Tryz.prog) (G := 6) (lf := 200) (f := 297) n_c0
    · exact n_l0 y hy
theorem ok_c1 : CallOK Tryz.prog 6 c1 := ok_of ok_l1 n_l1
theorem n_c1 : CallN c1 := n_of n_l1
theorem known15 : ∀ m ∈ ms15, memoOK (c1 15) m = true := by
  intro m hm
  simp only [ms15, List.mem_append] at hm
  rcases hm with (((hm | hm) | hm) | hm) | hm
  · exact List.all_eq_true.1 runNN2 m hm
  · exact List.all_eq_true.1 runNN3 m hm
  · exact List.all_eq_true.1 runNN4 m hm
  · exact List.all_eq_true.1 runNN5 m hm
  · exact List.all_eq_true.1 runNN6 m hm
theorem known22 : ∀ m ∈ ms22, memoOK (c1 22) m = true := fun m hm => by
  simp only [ms22, List.mem_append] at hm
  rcases hm with hm | hm
  · exact List.all_eq_true.1 runNN7 m hm
  · exact List.all_eq_true.1 runNN8 m hm
theorem known37 : ∀ m ∈ [m0], memoOK (c1 37) m = true := List.all_eq_true.1 runNN1
theorem ok_l2 : ∀ y ∈ l2, AnsOK Tryz.prog 6 y.1 y.2 := by
  intro y hy
  rcases List.mem_cons.1 hy with rfl | hy
  · exact memoE_ok ok_c1 known15
  · rcases List.mem_cons.1 hy with rfl | hy
    · exact memoE_ok ok_c1 known37
    · rcases List.mem_cons.1 hy with rfl | hy
      · exact memoE_ok ok_c1 known22
      · exact ok_l1 y hy
theorem n_l2 : ∀ y ∈ l2, AnsN y.2 := by
  intro y hy
  rcases List.mem_cons.1 hy with rfl | hy
  · exact memoE_n n_c1 known15
  · rcases List.mem_cons.1 hy with rfl | hy
    · exact memoE_n n_c1 known37
    · rcases List.mem_cons.1 hy with rfl | hy
      · exact memoE_n n_c1 known22
      · exact n_l1 y hy
theorem body6 : ∃ c, Tryz.f6.body = some c := Option.isSome_iff_exists.1 (by kernel_rfl)
theorem laidOut : laidOutB Tryz.prog = true := by kernel_rfl
theorem readable : Tryz.prog.readableRec 46 = true := by kernel_rfl
theorem cells46 : Tryz.prog.cellsOf 46 = 59 := by kernel_rfl
theorem inTypes : 46 < Tryz.prog.types.size := of_decide_eq_true (by kernel_rfl)

/-- What is known of the one variable that is read. -/
theorem known0 (W : World) (hl : laidMetH Tryz.prog Rows.nodeNoneRow.laid W) (hsh : W.ShapedOpen Tryz.prog) : ∃ v, W.heap[0]? = some (.cells #[v] 349 (0, 0)) ∧ v.oneCell' = true := by
  have hl' : laidMet Tryz.prog Rows.nodeNoneRow.laid W := hl
  exact global_one (g := 0) (t := 349) (t' := 349) (zero := #[.nilIface]) (name := "strconv.ErrSyntax") (d := Rows.laid_strconv_ErrSyntax) hsh (of_decide_eq_true (by kernel_rfl)) (by kernel_rfl) rfl (by kernel_rfl) (by kernel_rfl) Tryz.underlying349
    (by simp [Rows.nodeNoneRow]) hl'

/-- THE WALK, for every input. -/
theorem walk (W : World) (v0 v1 : Value) (h0 : ∀ ρ, VRel ρ opq v0) (h1 : v1.oneCell' = true) {g : Value} (hg : W.heap[0]? = some (.cells #[g] 349 (0, 0))) (ho : g.oneCell' = true) :
    Calls Tryz.prog 6 #[v0, v1] W fun e w' => e = .returned (.bool true) ∧ Below W.heap.size W w' := by
  obtain ⟨c, hc⟩ := body6
  refine calls_bool_h plainP (ok_of (n := 400) ok_l2 n_l2) Tryz.func6 hc runTop W (sim1 hg ho) (gok1 (by decide)) (fun x hx => fresh1 (by decide) x hx) (fun b x h => ?_) ?_
  · rcases layL_get _ _ b x h with h1 | ⟨h1, _⟩
    · simp only [List.mem_singleton, Prod.mk.injEq] at h1
      rw [h1.2]; rfl
    · rw [T.get_nil] at h1; cases h1
  · simp only [LRel, VRel, and_true]
    exact ⟨h0 _, h1⟩

/-- WHAT THE WALK GIVES, for every argument and every world. -/
theorem contract (H : Type) (enc : TypeId × Value → H) (W : World) (base : Nat) (args : Array Value) (ds gs : List (DataW H)) (before : List MemPlace)
    (hval : ∀ (j : Nat) t v, Tryz.f6.params[j]? = some t → args[j]? = some v → Value.okWide Tryz.prog W .any base t v)
    (hW : DataW.Whole enc Tryz.prog Tryz.f6.params.toList Rows.nodeNoneSpec.vars false W args.toList ds gs before)
    (hl : laidMetH Tryz.prog Rows.nodeNoneRow.laid W) (hsh : W.ShapedOpen Tryz.prog) :
    Calls Tryz.prog 6 args W fun e W' => ∃ v, e = .returned v ∧ Rows.nodeNoneSpec.post enc Tryz.prog Tryz.f6 false true false false W args v W' := by
  obtain ⟨gv, hg, ho⟩ := known0 W hl hsh
  have hW' := hW
  obtain ⟨p, q, hA0, hV, rfl, hfz, hnd⟩ := hW
  have hA : DataW.TrodAll enc Tryz.prog W 0 (fun _ => true) true Tryz.f6.params.toList args.toList ds p := hA0
  rw [Tryz.params6] at hA hval
  obtain ⟨v0, vs0, d0, ds0, p0, q0, hargs, rfl, rfl, h0, r0⟩ := trodAll_cons hA
  obtain ⟨v1, vs1, d1, ds1, p1, q1, rfl, rfl, rfl, h1, r1⟩ := trodAll_cons r0
  obtain ⟨rfl, rfl, rfl⟩ := trodAll_nil r1
  obtain rfl : args = #[v0, v1] := by cases args; simp_all
  obtain ⟨rfl, rfl⟩ := trodVars_none hV
  obtain ⟨draw, rfl, rfl, rfl, w1⟩ := open_int Tryz.underlying41 (hval 1 41 v1 rfl rfl) h1
  have hv0 := any_agg (hval 0 46 v0 rfl rfl) Tryz.underlying46 cells46
  clear hA0
  simp only [List.append_nil] at hW'
  refine (walk W v0 (.int .u64 draw) hv0 rfl hg ho).mono fun e W' ⟨he, hb⟩ => ?_
  subst he
  have lt : ∀ x ∈ p0, x.block < W.heap.size := fun x hx => hW'.lt x hx
  have stay : ∀ sp : Nat → Bool, (∀ p ∈ p0, sp p.block = true) → DataW.Trod enc Tryz.prog W' 0 sp true 46 v0 d0 p0 := fun sp hs =>
    WideElems.Trod_stays laidOut readable inTypes h0 (fun x hx => hb.same (lt x hx)) hs
  exact ⟨_, rfl, post_below (pa := p0) (pv := []) hW' (fun _ _ _ => trodAll_cons_mk (shut_bool Tryz.underlying4 _) trodAll_mk0)
    (fun sp hs => by
      have := trodAll_cons_mk (stay sp (fun p hp => hs p (by simpa using hp))) (trodAll_cons_mk (shut_int Tryz.underlying41 w1) trodAll_mk0)
      have e : DataW.TrodAll enc Tryz.prog W' 0 sp true [46, 41] [v0, .int .u64 draw] [d0, .lit (.int .u64 draw)] p0 := by simpa using this
      rw [Tryz.params6]
      exact e)
    (fun _ _ => rfl) (by simp) hb (ok_one (by kernel_rfl) rfl (okWide_bool_mk Tryz.underlying4 _))⟩

noncomputable def low : Nat := (World.holding Tryz.prog default ⟨#[], #[], []⟩).heap.size
abbrev rangeS : ByteArray := { data := #[118, 97, 108, 117, 101, 32, 111, 117, 116, 32, 111, 102, 32, 114, 97, 110, 103, 101] }
abbrev syntaxS : ByteArray := { data := #[105, 110, 118, 97, 108, 105, 100, 32, 115, 121, 110, 116, 97, 120] }
/-- A WORLD FOR THE WITNESS. -/
noncomputable def laidWorld (os : Os) : World :=
  let w0 := World.holding Tryz.prog os ⟨#[.cells #[.string syntaxS] 490, .cells #[.string rangeS] 490], #[], []⟩
  { w0 with heap := ((((w0.heap.modify 0 fun
      | .cells _ t frozen => .cells #[.iface 488 (.pointer (some ⟨low, 0, none⟩))] t frozen
      | o => o).modify 1 fun
      | .cells _ t frozen => .cells #[.iface 488 (.pointer (some ⟨low + 1, 0, none⟩))] t frozen
      | o => o).modify 2 fun
      | .cells _ t frozen => .cells #[.int .u64 1, .int .u64 10, .int .u64 100, .int .u64 1000, .int .u64 10000, .int .u64 100000, .int .u64 1000000, .int .u64 10000000, .int .u64 100000000, .int .u64 1000000000, .int .u64 10000000000, .int .u64 100000000000, .int .u64 1000000000000, .int .u64 10000000000000, .int .u64 100000000000000, .int .u64 1000000000000000, .int .u64 10000000000000000, .int .u64 100000000000000000, .int .u64 1000000000000000000, .int .u64 10000000000000000000] t frozen
      | o => o).modify 4 fun
      | .cells _ t frozen => .cells #[.int .u8 0, .int .u8 1, .int .u8 28, .int .u8 2, .int .u8 29, .int .u8 14, .int .u8 24, .int .u8 3, .int .u8 30, .int .u8 22, .int .u8 20, .int .u8 15, .int .u8 25, .int .u8 17, .int .u8 4, .int .u8 8, .int .u8 31, .int .u8 27, .int .u8 13, .int .u8 23, .int .u8 21, .int .u8 19, .int .u8 16, .int .u8 7, .int .u8 26, .int .u8 12, .int .u8 18, .int .u8 6, .int .u8 11, .int .u8 5, .int .u8 10, .int .u8 9] t frozen
      | o => o).modify 5 fun
      | .cells _ t frozen => .cells #[.int .u8 0, .int .u8 1, .int .u8 56, .int .u8 2, .int .u8 57, .int .u8 49, .int .u8 28, .int .u8 3, .int .u8 61, .int .u8 58, .int .u8 42, .int .u8 50, .int .u8 38, .int .u8 29, .int .u8 17, .int .u8 4, .int .u8 62, .int .u8 47, .int .u8 59, .int .u8 36, .int .u8 45, .int .u8 43, .int .u8 51, .int .u8 22, .int .u8 53, .int .u8 39, .int .u8 33, .int .u8 30, .int .u8 24, .int .u8 18, .int .u8 12, .int .u8 5, .int .u8 63, .int .u8 55, .int .u8 48, .int .u8 27, .int .u8 60, .int .u8 41, .int .u8 37, .int .u8 16, .int .u8 46, .int .u8 35, .int .u8 44, .int .u8 21, .int .u8 52, .int .u8 32, .int .u8 23, .int .u8 11, .int .u8 54, .int .u8 26, .int .u8 40, .int .u8 15, .int .u8 34, .int .u8 20, .int .u8 31, .int .u8 10, .int .u8 25, .int .u8 14, .int .u8 19, .int .u8 9, .int .u8 13, .int .u8 8, .int .u8 7, .int .u8 6] t frozen
      | o => o }
noncomputable def zeroMsg : Value := ((Tryz.prog.info? 46).bind (·.zero)).getD (.int .i64 0)
theorem laid_met (os : Os) : laidMet Tryz.prog Rows.nodeNoneRow.laid ((laidWorld os).forCall (fun _ _ => 0) ⟨#[], #[zeroMsg, .int .u64 0], []⟩).memory :=
  laidMet_of_run' 8 (by kernel_rfl) (by kernel_rfl)

end Go.Proofs.YtgihdlhoaimlpaaGreatDoor.nodeNone
