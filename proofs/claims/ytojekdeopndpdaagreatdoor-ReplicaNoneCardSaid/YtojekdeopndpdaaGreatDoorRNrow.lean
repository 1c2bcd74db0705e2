/- ReplicaNone: for every input the law returns true, and the input reads as it did. -/
import Derived.Test.YtojekdeopndpdaaGreatDoorRN5
import Derived.Test.YtojekdeopndpdaaGreatDoorRN4
import Derived.Test.YtojekdeopndpdaaGreatDoorRN3
import Derived.Test.YtojekdeopndpdaaGreatDoorRN2
import Derived.Test.YtojekdeopndpdaaGreatDoorRN1
import Derived.Test.YtojekdeopndpdaaGreatDoorAMzg
import Derived.Test.YtojekdeopndpdaaGreatDoorCards
import Derived.Test.YtojekdeopndpdaaGreatDoorTie
import Derived.WalkKit
import Derived.ProofKit
import Derived.OpenShut
import Derived.Deep.DeepHandedRow
namespace Go.Proofs.YtojekdeopndpdaaGreatDoor.replicaNone
open Go.ChangeShapes Go.WideShapes Go.ChangeAt Go.RowKit Go.Proofs.YtojekdeopndpdaaGreatDoor.AM
set_option maxRecDepth 100000

theorem own : ownKnob Tryz.prog.godebug = none := by kernel_rfl
theorem mixed : Tryz.prog.follows .mixedOrders = true := by kernel_rfl
theorem plainAll : (Tryz.prog.funcs.toList.all fun fn => !fn.body.isSome || !(fn.name == "runtime.NumGoroutine")) = true := by kernel_rfl
theorem plainP : Plain Tryz.prog := fun f fn hf hb => by
  have := List.all_eq_true.1 plainAll fn (List.mem_of_getElem? (i := f) (by simpa using hf))
  simpa [hb] using this
theorem x182 : Extn Tryz.prog 182 (Extern.Atomic.loadT (.int .u32)) := ⟨_, Tryz.func182, by kernel_rfl, by kernel_rfl, by kernel_rfl, by kernel_rfl⟩
theorem x190 : Extn Tryz.prog 190 Extern.Atomic.storeT := ⟨_, Tryz.func190, by kernel_rfl, by kernel_rfl, by kernel_rfl, by kernel_rfl⟩
theorem x193 : Extn Tryz.prog 193 (Extern.Atomic.casT (.int .i32)) := ⟨_, Tryz.func193, by kernel_rfl, by kernel_rfl, by kernel_rfl, by kernel_rfl⟩
theorem x198 : Extn Tryz.prog 198 (Extern.Atomic.update (Op.intArith .add) .i32 true) := ⟨_, Tryz.func198, by kernel_rfl, by kernel_rfl, by kernel_rfl, by kernel_rfl⟩
theorem x192 : Extn Tryz.prog 192 (fun _ => do mark .disable; pure Extern.Race.none_) := ⟨_, Tryz.func192, by kernel_rfl, by kernel_rfl, by kernel_rfl, by kernel_rfl⟩
theorem x194 : Extn Tryz.prog 194 (fun _ => do mark .enable; pure Extern.Race.none_) := ⟨_, Tryz.func194, by kernel_rfl, by kernel_rfl, by kernel_rfl, by kernel_rfl⟩
theorem x195 : Extn Tryz.prog 195 (Extern.Race.marked .acquire) := ⟨_, Tryz.func195, by kernel_rfl, by kernel_rfl, by kernel_rfl, by kernel_rfl⟩
theorem x197 : Extn Tryz.prog 197 (Extern.Race.marked .releaseMerge) := ⟨_, Tryz.func197, by kernel_rfl, by kernel_rfl, by kernel_rfl, by kernel_rfl⟩
theorem a182 : AnsOK Tryz.prog 6 182 (loadX .u32) := loadX_ok x182
theorem a190 : AnsOK Tryz.prog 6 190 storeX := storeX_ok x190
theorem a193 : AnsOK Tryz.prog 6 193 (casX .i32) := casX_ok x193
theorem a198 : AnsOK Tryz.prog 6 198 (addX .i32) := addX_ok x198
theorem a192 : AnsOK Tryz.prog 6 192 mark0X := mark0X_ok x192
theorem a194 : AnsOK Tryz.prog 6 194 mark0X := mark0X_ok x194
theorem a195 : AnsOK Tryz.prog 6 195 markX := markX_ok x195
theorem a197 : AnsOK Tryz.prog 6 197 markX := markX_ok x197
theorem extsOK : ∀ y ∈ exts, AnsOK Tryz.prog 6 y.1 y.2 := by
  intro y hy
  simp only [exts, List.mem_cons, List.not_mem_nil, or_false] at hy
  rcases hy with rfl | rfl | rfl | rfl | rfl | rfl | rfl | rfl
  · exact a182
  · exact a190
  · exact a193
  · exact a198
  · exact a192
  · exact a194
  · exact a195
  · exact a197
theorem extsN : ∀ y ∈ exts, AnsN y.2 := by
  intro y hy
  simp only [exts, List.mem_cons, List.not_mem_nil, or_false] at hy
  rcases hy with rfl | rfl | rfl | rfl | rfl | rfl | rfl | rfl
  · exact loadX_n _
  · exact storeX_n
  · exact casX_n _
  · exact addX_n _
  · exact mark0X_n
  · exact mark0X_n
  · exact markX_n
  · exact markX_n
theorem body9 : ∃ c, Tryz.f9.body = some c := Option.isSome_iff_exists.1 (by kernel_rfl)
theorem laidOut : laidOutB Tryz.prog = true := by kernel_rfl
theorem readable : Tryz.prog.readableRec 77 = true := by kernel_rfl
theorem cells77 : Tryz.prog.cellsOf 77 = 27 := by kernel_rfl
theorem inTypes : 77 < Tryz.prog.types.size := of_decide_eq_true (by kernel_rfl)

/-- THE WALK, for every input. -/
theorem walk (W : World) (v0 : Value) (h0 : ∀ ρ, VRel ρ opq v0) (part me : Int) (hp : (Lit.int .i64 part).wf = true) (hm : (Lit.int .i64 me).wf = true) :
    Calls Tryz.prog 9 #[v0, .int .i64 part, .int .i64 me] W fun e w' => e = .returned (.bool true) ∧ Below W.heap.size W w' := by
  obtain ⟨c, hc⟩ := body9
  have wf : ∀ n : Int, (Lit.int .i64 n).wf = true → -9223372036854775808 ≤ n ∧ n ≤ 9223372036854775807 := fun n h => by
    simpa [Lit.wf, IntKind.min, IntKind.max, IntKind.signed, IntKind.bits] using h
  have hp' := wf part hp
  have hm' := wf me hm
  have go : ∀ (lo hi lo' hi' : Int), lo ≤ part → part ≤ hi → lo' ≤ me → me ≤ hi' → ∀ ρ, LRel ρ [opq, .rng .i64 lo hi, .rng .i64 lo' hi'] (#[v0, .int .i64 part, .int .i64 me] : Array Value).toList := fun lo hi lo' hi' a b c d ρ => by
    simp only [LRel, VRel, and_true]
    exact ⟨h0 ρ, ⟨trivial, a, b⟩, ⟨trivial, c, d⟩⟩
  by_cases p1 : part < 0
  · exact calls_bool plainP mixed extsOK extsN Tryz.func9 hc run2 (go _ _ _ _ (by omega) (by omega) (by omega) (by omega)) W
  · by_cases p2 : 5 < part
    · exact calls_bool plainP mixed extsOK extsN Tryz.func9 hc run3 (go _ _ _ _ (by omega) (by omega) (by omega) (by omega)) W
    · by_cases m1 : me < 0
      · exact calls_bool plainP mixed extsOK extsN Tryz.func9 hc run4 (go _ _ _ _ (by omega) (by omega) (by omega) (by omega)) W
      · by_cases m2 : 4 < me
        · exact calls_bool plainP mixed extsOK extsN Tryz.func9 hc run5 (go _ _ _ _ (by omega) (by omega) (by omega) (by omega)) W
        · exact calls_bool plainP mixed extsOK extsN Tryz.func9 hc run1 (go _ _ _ _ (by omega) (by omega) (by omega) (by omega)) W

/-- WHAT THE WALK GIVES, for every argument and every world. -/
theorem contract (H : Type) (enc : TypeId × Value → H) (W : World) (base : Nat) (args : Array Value) (ds gs : List (DataW H)) (before : List MemPlace)
    (hval : ∀ (j : Nat) t v, Tryz.f9.params[j]? = some t → args[j]? = some v → Value.okWide Tryz.prog W .any base t v)
    (hW : DataW.Whole enc Tryz.prog Tryz.f9.params.toList Rows.replicaNoneSpec.vars false W args.toList ds gs before) :
    Calls Tryz.prog 9 args W fun e W' => ∃ v, e = .returned v ∧ Rows.replicaNoneSpec.post enc Tryz.prog Tryz.f9 false true false false W args v W' := by
  have hW' := hW
  obtain ⟨p, q, hA0, hV, rfl, hfz, hnd⟩ := hW
  have hA : DataW.TrodAll enc Tryz.prog W 0 (fun _ => true) true Tryz.f9.params.toList args.toList ds p := hA0
  rw [Tryz.params9] at hA hval
  obtain ⟨v0, vs0, d0, ds0, p0, q0, hargs, rfl, rfl, h0, r0⟩ := trodAll_cons hA
  obtain ⟨v1, vs1, d1, ds1, p1, q1, rfl, rfl, rfl, h1, r1⟩ := trodAll_cons r0
  obtain ⟨v2, vs2, d2, ds2, p2, q2, rfl, rfl, rfl, h2, r2⟩ := trodAll_cons r1
  obtain ⟨rfl, rfl, rfl⟩ := trodAll_nil r2
  obtain rfl : args = #[v0, v1, v2] := by cases args; simp_all
  obtain ⟨rfl, rfl⟩ := trodVars_none hV
  obtain ⟨part, rfl, rfl, rfl, w1⟩ := open_int Tryz.underlying3 (hval 1 3 v1 rfl rfl) h1
  obtain ⟨me, rfl, rfl, rfl, w2⟩ := open_int Tryz.underlying3 (hval 2 3 v2 rfl rfl) h2
  have hv0 := any_agg (hval 0 77 v0 rfl rfl) Tryz.underlying77 cells77
  clear hA0
  simp only [List.append_nil] at hW'
  refine (walk W v0 hv0 part me w1 w2).mono fun e W' ⟨he, hg⟩ => ?_
  subst he
  have lt : ∀ x ∈ p0, x.block < W.heap.size := fun x hx => hW'.lt x hx
  have stay : ∀ sp : Nat → Bool, (∀ p ∈ p0, sp p.block = true) → DataW.Trod enc Tryz.prog W' 0 sp true 77 v0 d0 p0 := fun sp hs =>
    WideElems.Trod_stays laidOut readable inTypes h0 (fun x hx => hg.same (lt x hx)) hs
  exact ⟨_, rfl, post_below (pa := p0) (pv := []) hW' (fun _ _ _ => trodAll_cons_mk (shut_bool Tryz.underlying4 _) trodAll_mk0)
    (fun sp hs => by
      have := trodAll_cons_mk (stay sp (fun p hp => hs p (by simpa using hp))) (trodAll_cons_mk (shut_int Tryz.underlying3 w1) (trodAll_cons_mk (shut_int Tryz.underlying3 w2) trodAll_mk0))
      have e : DataW.TrodAll enc Tryz.prog W' 0 sp true [77, 3, 3] [v0, .int .i64 part, .int .i64 me] [d0, .lit (.int .i64 part), .lit (.int .i64 me)] p0 := by simpa using this
      rw [Tryz.params9]
      exact e)
    (fun _ _ => rfl) (by simp) hg (ok_one (by kernel_rfl) rfl (okWide_bool_mk Tryz.underlying4 _))⟩

noncomputable def low : Nat := (World.holding Tryz.prog default ⟨#[], #[], []⟩).heap.size
abbrev rangeS : ByteArray := { data := #[118, 97, 108, 117, 101, 32, 111, 117, 116, 32, 111, 102, 32, 114, 97, 110, 103, 101] }
abbrev syntaxS : ByteArray := { data := #[105, 110, 118, 97, 108, 105, 100, 32, 115, 121, 110, 116, 97, 120] }
/-- A WORLD FOR THE WITNESS. -/
noncomputable def laidWorld (os : Os) : World :=
  let w0 := World.holding Tryz.prog os ⟨#[.cells #[.string syntaxS] 268, .cells #[.string rangeS] 268], #[], []⟩
  { w0 with heap := ((((w0.heap.modify 0 fun
      | .cells _ t frozen => .cells #[.iface 266 (.pointer (some ⟨low, 0, none⟩))] t frozen
      | o => o).modify 1 fun
      | .cells _ t frozen => .cells #[.iface 266 (.pointer (some ⟨low + 1, 0, none⟩))] t frozen
      | o => o).modify 2 fun
      | .cells _ t frozen => .cells #[.int .u64 1, .int .u64 10, .int .u64 100, .int .u64 1000, .int .u64 10000, .int .u64 100000, .int .u64 1000000, .int .u64 10000000, .int .u64 100000000, .int .u64 1000000000, .int .u64 10000000000, .int .u64 100000000000, .int .u64 1000000000000, .int .u64 10000000000000, .int .u64 100000000000000, .int .u64 1000000000000000, .int .u64 10000000000000000, .int .u64 100000000000000000, .int .u64 1000000000000000000, .int .u64 10000000000000000000] t frozen
      | o => o).modify 4 fun
      | .cells _ t frozen => .cells #[.int .u8 0, .int .u8 1, .int .u8 28, .int .u8 2, .int .u8 29, .int .u8 14, .int .u8 24, .int .u8 3, .int .u8 30, .int .u8 22, .int .u8 20, .int .u8 15, .int .u8 25, .int .u8 17, .int .u8 4, .int .u8 8, .int .u8 31, .int .u8 27, .int .u8 13, .int .u8 23, .int .u8 21, .int .u8 19, .int .u8 16, .int .u8 7, .int .u8 26, .int .u8 12, .int .u8 18, .int .u8 6, .int .u8 11, .int .u8 5, .int .u8 10, .int .u8 9] t frozen
      | o => o).modify 5 fun
      | .cells _ t frozen => .cells #[.int .u8 0, .int .u8 1, .int .u8 56, .int .u8 2, .int .u8 57, .int .u8 49, .int .u8 28, .int .u8 3, .int .u8 61, .int .u8 58, .int .u8 42, .int .u8 50, .int .u8 38, .int .u8 29, .int .u8 17, .int .u8 4, .int .u8 62, .int .u8 47, .int .u8 59, .int .u8 36, .int .u8 45, .int .u8 43, .int .u8 51, .int .u8 22, .int .u8 53, .int .u8 39, .int .u8 33, .int .u8 30, .int .u8 24, .int .u8 18, .int .u8 12, .int .u8 5, .int .u8 63, .int .u8 55, .int .u8 48, .int .u8 27, .int .u8 60, .int .u8 41, .int .u8 37, .int .u8 16, .int .u8 46, .int .u8 35, .int .u8 44, .int .u8 21, .int .u8 52, .int .u8 32, .int .u8 23, .int .u8 11, .int .u8 54, .int .u8 26, .int .u8 40, .int .u8 15, .int .u8 34, .int .u8 20, .int .u8 31, .int .u8 10, .int .u8 25, .int .u8 14, .int .u8 19, .int .u8 9, .int .u8 13, .int .u8 8, .int .u8 7, .int .u8 6] t frozen
      | o => o }
noncomputable def zeroOp : Value := ((Tryz.prog.info? 77).bind (·.zero)).getD (.int .i64 0)
theorem laid_met (os : Os) : laidMet Tryz.prog Rows.replicaNoneRow.laid ((laidWorld os).forCall (fun _ _ => 0) ⟨#[], #[zeroOp, .int .i64 0, .int .i64 0], []⟩).memory :=
  laidMet_of_run' 8 (by kernel_rfl) (by kernel_rfl)

end Go.Proofs.YtojekdeopndpdaaGreatDoor.replicaNone
