/- The abstract machine: what is plain about regions whose order is drawn. -/
import Derived.Test.YtgihdlhoaimlpaaGreatDoorAMu
namespace Go.Proofs.YtgihdlhoaimlpaaGreatDoor.AM
set_option autoImplicit false
set_option linter.unusedSimpArgs false
set_option linter.unusedVariables false

mutual
theorem beqV_eq : ∀ (v u : V), beqV v u = true → v = u
  | .int k n, .int k' n', h => by simp [beqV] at h; obtain ⟨rfl, rfl⟩ := h; rfl
  | .bool b, .bool b', h => by simp [beqV] at h; subst h; rfl
  | .str s, .str s', h => by simp only [beqV, eqL_iff] at h; subst h; rfl
  | .ptr b o, .ptr b' o', h => by simp [beqV] at h; obtain ⟨rfl, rfl⟩ := h; rfl
  | .nilp, .nilp, _ => rfl
  | .sl z b o l c, .sl z' b' o' l' c', h => by simp [beqV] at h; obtain ⟨⟨⟨⟨rfl, rfl⟩, rfl⟩, rfl⟩, rfl⟩ := h; rfl
  | .nils, .nils, _ => rfl
  | .map b, .map b', h => by simp [beqV] at h; subst h; rfl
  | .nilm, .nilm, _ => rfl
  | .fn f x y, .fn f' x' y', h => by
    simp only [beqV, Bool.and_eq_true] at h
    have h1 := beqVs_eq x x' h.1.2; have h2 := beqVs_eq y y' h.2
    have h3 : f = f' := by simpa using h.1.1
    subst h1 h2 h3; rfl
  | .nilf, .nilf, _ => rfl
  | .iface t v, .iface t' v', h => by
    simp only [beqV, Bool.and_eq_true] at h
    have h1 := beqV_eq v v' h.2
    have h3 : t = t' := by simpa using h.1
    subst h1 h3; rfl
  | .nili, .nili, _ => rfl
  | .agg l, .agg l', h => by simp only [beqV] at h; rw [beqVs_eq l l' h]
  | .tup l, .tup l', h => by simp only [beqV] at h; rw [beqVs_eq l l' h]
  | .any, .any, _ => rfl
  | .rng k a b, .rng k' a' b', h => by simp [beqV] at h; obtain ⟨⟨rfl, rfl⟩, rfl⟩ := h; rfl
  | .int .., .bool .., h | .int .., .str .., h | .int .., .ptr .., h | .int .., .nilp, h | .int .., .sl .., h | .int .., .nils, h | .int .., .map .., h | .int .., .nilm, h | .int .., .fn .., h | .int .., .nilf, h | .int .., .iface .., h | .int .., .nili, h | .int .., .agg .., h | .int .., .tup .., h | .int .., .any, h | .int .., .rng .., h => by simp [beqV] at h
  | .bool .., .int .., h | .bool .., .str .., h | .bool .., .ptr .., h | .bool .., .nilp, h | .bool .., .sl .., h | .bool .., .nils, h | .bool .., .map .., h | .bool .., .nilm, h | .bool .., .fn .., h | .bool .., .nilf, h | .bool .., .iface .., h | .bool .., .nili, h | .bool .., .agg .., h | .bool .., .tup .., h | .bool .., .any, h | .bool .., .rng .., h => by simp [beqV] at h
  | .str .., .int .., h | .str .., .bool .., h | .str .., .ptr .., h | .str .., .nilp, h | .str .., .sl .., h | .str .., .nils, h | .str .., .map .., h | .str .., .nilm, h | .str .., .fn .., h | .str .., .nilf, h | .str .., .iface .., h | .str .., .nili, h | .str .., .agg .., h | .str .., .tup .., h | .str .., .any, h | .str .., .rng .., h => by simp [beqV] at h
  | .ptr .., .int .., h | .ptr .., .bool .., h | .ptr .., .str .., h | .ptr .., .nilp, h | .ptr .., .sl .., h | .ptr .., .nils, h | .ptr .., .map .., h | .ptr .., .nilm, h | .ptr .., .fn .., h | .ptr .., .nilf, h | .ptr .., .iface .., h | .ptr .., .nili, h | .ptr .., .agg .., h | .ptr .., .tup .., h | .ptr .., .any, h | .ptr .., .rng .., h => by simp [beqV] at h
  | .nilp, .int .., h | .nilp, .bool .., h | .nilp, .str .., h | .nilp, .ptr .., h | .nilp, .sl .., h | .nilp, .nils, h | .nilp, .map .., h | .nilp, .nilm, h | .nilp, .fn .., h | .nilp, .nilf, h | .nilp, .iface .., h | .nilp, .nili, h | .nilp, .agg .., h | .nilp, .tup .., h | .nilp, .any, h | .nilp, .rng .., h => by simp [beqV] at h
  | .sl .., .int .., h | .sl .., .bool .., h | .sl .., .str .., h | .sl .., .ptr .., h | .sl .., .nilp, h | .sl .., .nils, h | .sl .., .map .., h | .sl .., .nilm, h | .sl .., .fn .., h | .sl .., .nilf, h | .sl .., .iface .., h | .sl .., .nili, h | .sl .., .agg .., h | .sl .., .tup .., h | .sl .., .any, h | .sl .., .rng .., h => by simp [beqV] at h
  | .nils, .int .., h | .nils, .bool .., h | .nils, .str .., h | .nils, .ptr .., h | .nils, .nilp, h | .nils, .sl .., h | .nils, .map .., h | .nils, .nilm, h | .nils, .fn .., h | .nils, .nilf, h | .nils, .iface .., h | .nils, .nili, h | .nils, .agg .., h | .nils, .tup .., h | .nils, .any, h | .nils, .rng .., h => by simp [beqV] at h
  | .map .., .int .., h | .map .., .bool .., h | .map .., .str .., h | .map .., .ptr .., h | .map .., .nilp, h | .map .., .sl .., h | .map .., .nils, h | .map .., .nilm, h | .map .., .fn .., h | .map .., .nilf, h | .map .., .iface .., h | .map .., .nili, h | .map .., .agg .., h | .map .., .tup .., h | .map .., .any, h | .map .., .rng .., h => by simp [beqV] at h
  | .nilm, .int .., h | .nilm, .bool .., h | .nilm, .str .., h | .nilm, .ptr .., h | .nilm, .nilp, h | .nilm, .sl .., h | .nilm, .nils, h | .nilm, .map .., h | .nilm, .fn .., h | .nilm, .nilf, h | .nilm, .iface .., h | .nilm, .nili, h | .nilm, .agg .., h | .nilm, .tup .., h | .nilm, .any, h | .nilm, .rng .., h => by simp [beqV] at h
  | .fn .., .int .., h | .fn .., .bool .., h | .fn .., .str .., h | .fn .., .ptr .., h | .fn .., .nilp, h | .fn .., .sl .., h | .fn .., .nils, h | .fn .., .map .., h | .fn .., .nilm, h | .fn .., .nilf, h | .fn .., .iface .., h | .fn .., .nili, h | .fn .., .agg .., h | .fn .., .tup .., h | .fn .., .any, h | .fn .., .rng .., h => by simp [beqV] at h
  | .nilf, .int .., h | .nilf, .bool .., h | .nilf, .str .., h | .nilf, .ptr .., h | .nilf, .nilp, h | .nilf, .sl .., h | .nilf, .nils, h | .nilf, .map .., h | .nilf, .nilm, h | .nilf, .fn .., h | .nilf, .iface .., h | .nilf, .nili, h | .nilf, .agg .., h | .nilf, .tup .., h | .nilf, .any, h | .nilf, .rng .., h => by simp [beqV] at h
  | .iface .., .int .., h | .iface .., .bool .., h | .iface .., .str .., h | .iface .., .ptr .., h | .iface .., .nilp, h | .iface .., .sl .., h | .iface .., .nils, h | .iface .., .map .., h | .iface .., .nilm, h | .iface .., .fn .., h | .iface .., .nilf, h | .iface .., .nili, h | .iface .., .agg .., h | .iface .., .tup .., h | .iface .., .any, h | .iface .., .rng .., h => by simp [beqV] at h
  | .nili, .int .., h | .nili, .bool .., h | .nili, .str .., h | .nili, .ptr .., h | .nili, .nilp, h | .nili, .sl .., h | .nili, .nils, h | .nili, .map .., h | .nili, .nilm, h | .nili, .fn .., h | .nili, .nilf, h | .nili, .iface .., h | .nili, .agg .., h | .nili, .tup .., h | .nili, .any, h | .nili, .rng .., h => by simp [beqV] at h
  | .agg .., .int .., h | .agg .., .bool .., h | .agg .., .str .., h | .agg .., .ptr .., h | .agg .., .nilp, h | .agg .., .sl .., h | .agg .., .nils, h | .agg .., .map .., h | .agg .., .nilm, h | .agg .., .fn .., h | .agg .., .nilf, h | .agg .., .iface .., h | .agg .., .nili, h | .agg .., .tup .., h | .agg .., .any, h | .agg .., .rng .., h => by simp [beqV] at h
  | .tup .., .int .., h | .tup .., .bool .., h | .tup .., .str .., h | .tup .., .ptr .., h | .tup .., .nilp, h | .tup .., .sl .., h | .tup .., .nils, h | .tup .., .map .., h | .tup .., .nilm, h | .tup .., .fn .., h | .tup .., .nilf, h | .tup .., .iface .., h | .tup .., .nili, h | .tup .., .agg .., h | .tup .., .any, h | .tup .., .rng .., h => by simp [beqV] at h
  | .any, .int .., h | .any, .bool .., h | .any, .str .., h | .any, .ptr .., h | .any, .nilp, h | .any, .sl .., h | .any, .nils, h | .any, .map .., h | .any, .nilm, h | .any, .fn .., h | .any, .nilf, h | .any, .iface .., h | .any, .nili, h | .any, .agg .., h | .any, .tup .., h | .any, .rng .., h => by simp [beqV] at h
  | .rng .., .int .., h | .rng .., .bool .., h | .rng .., .str .., h | .rng .., .ptr .., h | .rng .., .nilp, h | .rng .., .sl .., h | .rng .., .nils, h | .rng .., .map .., h | .rng .., .nilm, h | .rng .., .fn .., h | .rng .., .nilf, h | .rng .., .iface .., h | .rng .., .nili, h | .rng .., .agg .., h | .rng .., .tup .., h | .rng .., .any, h => by simp [beqV] at h
theorem beqVs_eq : ∀ (l m : List V), beqVs l m = true → l = m
  | [], [], _ => rfl
  | v :: l, u :: m, h => by
    simp only [beqVs, Bool.and_eq_true] at h
    rw [beqV_eq v u h.1, beqVs_eq l m h.2]
  | [], _ :: _, h => by simp [beqVs] at h
  | _ :: _, [], h => by simp [beqVs] at h
end

section
variable {P : Program} {G nt : Nat} {call : CallF} {ops : Array Oper} {bf : List Nat}

theorem alOp_new {h h' : H} {env : T V} {o : Oper} {v : V} (e : alOp P G h env o = some (v, h')) :
    ∃ x : Blk, x.ro = false ∧ h' = h.new x ∧ ∀ h2 : H, h2.n = h.n → alOp P G h2 env o = some (v, h2.new x) := by
  unfold alOp at e
  split at e
  · rename_i t ho
    simp only [allocV, Option.map_eq_some_iff, Prod.mk.injEq] at e
    obtain ⟨z, hz, rfl, rfl⟩ := e
    exact ⟨_, rfl, rfl, fun h2 hn => by simp [alOp, ho, allocV, hz, hn]⟩
  · rename_i t x ho
    split at e
    · rename_i u hu
      simp only [boxV, Option.some.injEq, Prod.mk.injEq] at e; obtain ⟨rfl, rfl⟩ := e
      exact ⟨_, rfl, rfl, fun h2 hn => by simp [alOp, ho, hu, boxV, hn]⟩
    · cases e
  · rename_i t n ps ho
    split at e
    · rename_i l hl
      unfold buildSliceV at e
      split at e
      · rename_i el he
        split at e
        · rename_i sz z hs hz
          split at e
          · rename_i hc
            simp only [Option.map_eq_some_iff, Prod.mk.injEq] at e
            obtain ⟨cs, hcs, rfl, rfl⟩ := e
            exact ⟨_, rfl, rfl, fun h2 hn => by simp only [alOp, ho, hl, buildSliceV, he, hs, hz, hn]; rw [if_pos hc, hcs]; rfl⟩
          · cases e
        · cases e
      · cases e
    · cases e
  · rename_i t l c ho
    split at e
    · rename_i a b ha hb
      unfold makeSliceV at e
      split at e
      · rename_i el k1 l k2 c he
        split at e
        · rename_i i z hi hz
          split at e
          · rename_i hc
            simp only [Option.some.injEq, Prod.mk.injEq] at e
            obtain ⟨rfl, rfl⟩ := e
            exact ⟨_, rfl, rfl, fun h2 hn => by simp only [alOp, ho, ha, hb, makeSliceV, he, hi, hz, hn]; rw [if_pos hc]⟩
          · cases e
        · cases e
      · cases e
    · cases e
  · rename_i s d x ho
    split at e
    · rename_i a ha
      unfold strBytesV at e
      split at e
      · rename_i el l h1 h2
        split at e
        · rename_i hc
          simp only [Option.some.injEq, Prod.mk.injEq] at e
          obtain ⟨rfl, rfl⟩ := e
          exact ⟨_, rfl, rfl, fun h2' hn => by simp only [alOp, ho, ha, strBytesV, h1, h2, hn]; rw [if_pos hc]⟩
        · cases e
      · cases e
    · cases e
  · rename_i t r ho
    split at e
    · rename_i x hx
      split at e
      · rename_i hc
        simp only [makeMapV, Option.some.injEq, Prod.mk.injEq] at e
        obtain ⟨rfl, rfl⟩ := e
        exact ⟨_, rfl, rfl, fun h2 hn => by simp only [alOp, ho, hx, makeMapV, hn]; rw [if_pos hc]⟩
      · cases e
    · cases e
  · cases e

theorem dropL_get : ∀ (l : List Nat) (t : T V) (d : Nat) (v : V), (dropL l t).get d = some v → d ∉ l ∧ t.get d = some v
  | [], t, d, v, h => ⟨by simp, h⟩
  | x :: l, t, d, v, h => by
    simp only [dropL, T.get_set] at h
    split at h
    · cases h
    · rename_i hd
      obtain ⟨h1, h2⟩ := dropL_get l t d v h
      exact ⟨by simp [hd, h1], h2⟩

end
end Go.Proofs.YtgihdlhoaimlpaaGreatDoor.AM
