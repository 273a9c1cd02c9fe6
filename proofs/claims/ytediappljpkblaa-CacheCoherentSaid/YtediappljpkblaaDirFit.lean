/- CacheVersions: the walk. -/
import Derived.Test.YtediappljpkblaaAwake
namespace Go.Proofs.Ytediappljpkblaa
set_option linter.unusedSimpArgs false
set_option linter.unusedVariables false
open Go.RowKit

/-- versions are not greater than the counter -/
structure Dir.fit (D : Dir) : Prop where
  c0 : 0 ≤ D.cnt
  ren : ∀ k v, D.ren k = some v → v ≤ D.cnt
  chg : ∀ k v, D.chg k = some v → v ≤ D.cnt
theorem Dir.fit.ver {D : Dir} (h : D.fit) (q : Int × Int) : D.ver q ≤ D.cnt := by
  unfold Dir.ver
  have h1 : (D.ren q.1).getD 0 ≤ D.cnt := by
    cases hr : D.ren q.1 with
    | none => simpa using h.c0
    | some v => simpa using h.ren _ _ hr
  have h2 : (D.chg q).getD 0 ≤ D.cnt := by
    cases hr : D.chg q with
    | none => simpa using h.c0
    | some v => simpa using h.chg _ _ hr
  omega
theorem fit_new : aD0.fit := ⟨by decide, fun _ _ h => by simp [aD0] at h, fun _ _ h => by simp [aD0] at h⟩
def Dir.regd (D : Dir) (s i p : Int) : Dir := { D with reg := putF D.reg (s, i, p) true, cap := D.cap + 1 }
theorem Dir.fit.regd {D : Dir} (h : D.fit) (s i p : Int) : (D.regd s i p).fit := ⟨h.c0, h.ren, h.chg⟩
theorem Dir.fit.change {D : Dir} (h : D.fit) (id : Int) (l : List Int) : (D.change id l).fit := by
  refine ⟨by have := h.c0; simp [Dir.change]; omega, fun k v hk => ?_, fun k v hk => ?_⟩
  · have := h.ren k v hk; simp [Dir.change]; omega
  · simp only [Dir.change, chgs] at hk ⊢
    split at hk
    · cases hk; omega
    · have := h.chg k v hk; omega
theorem Dir.fit.renew {D : Dir} (h : D.fit) (id : Int) : (D.renew id).fit := by
  refine ⟨by have := h.c0; simp [Dir.renew]; omega, fun k v hk => ?_, fun k v hk => ?_⟩
  · simp only [Dir.renew, putF] at hk ⊢
    split at hk
    · cases hk; omega
    · have := h.ren k v hk; omega
  · have := h.chg k v hk; simp [Dir.renew]; omega
theorem Dir.fit.forget {D : Dir} (h : D.fit) (s : Int) : (D.forget s).fit := ⟨h.c0, h.ren, h.chg⟩
theorem ver_regd (D : Dir) (s i p : Int) (q) : (D.regd s i p).ver q = D.ver q := rfl
theorem ver_forget (D : Dir) (s : Int) (q) : (D.forget s).ver q = D.ver q := rfl
theorem ver_change_yes {D : Dir} (h : D.fit) (id p : Int) (l : List Int) (hp : l.contains p = true) : (D.change id l).ver (id, p) = D.cnt + 1 := by
  have h2 : (D.ren id).getD 0 ≤ D.cnt := by
    cases hr : D.ren id with
    | none => simpa using h.c0
    | some v => simpa using h.ren _ _ hr
  have : (chgs D.chg id l (D.cnt + 1)) (id, p) = some (D.cnt + 1) := by
    unfold chgs; rw [if_pos ⟨rfl, by simpa using hp⟩]
  show max ((D.ren id).getD 0) (((chgs D.chg id l (D.cnt + 1)) (id, p)).getD 0) = _
  rw [this]; simp; omega
theorem ver_change_no (D : Dir) (id i p : Int) (l : List Int) (hp : (i == id && l.contains p) = false) : (D.change id l).ver (i, p) = D.ver (i, p) := by
  have : (chgs D.chg id l (D.cnt + 1)) (i, p) = D.chg (i, p) := by
    unfold chgs; rw [if_neg]
    rintro ⟨h1, h2⟩
    simp only at h1 h2
    rw [h1] at hp; simp [h2] at hp
  show max _ (((chgs D.chg id l (D.cnt + 1)) (i, p)).getD 0) = _
  rw [this]; rfl
theorem ver_renew_yes {D : Dir} (h : D.fit) (id p : Int) : (D.renew id).ver (id, p) = D.cnt + 1 := by
  have h2 : (D.chg (id, p)).getD 0 ≤ D.cnt := by
    cases hr : D.chg (id, p) with
    | none => simpa using h.c0
    | some v => simpa using h.chg _ _ hr
  show max ((putF D.ren id (D.cnt + 1) id).getD 0) ((D.chg (id, p)).getD 0) = _
  simp [putF]; omega
theorem ver_renew_no (D : Dir) (id i p : Int) (hp : i ≠ id) : (D.renew id).ver (i, p) = D.ver (i, p) := by
  show max ((putF D.ren id (D.cnt + 1) i).getD 0) ((D.chg (i, p)).getD 0) = _
  simp [putF, hp, Dir.ver]

theorem contains_snoc (l : List Int) (y p : Int) : (l ++ [y]).contains p = (l.contains p || y == p) := by
  have e : (([y] : List Int).contains p) = (y == p) := by
    show (p == y || false) = _
    rw [Bool.or_false]; exact Bool.beq_comm
  rw [List.contains_append, e]
theorem valid_change (D : Dir) (id i p : Int) (l : List Int) (v s : Int) (h : accChange id l (s, i, p) = true) : (D.change id l).valid s i p v = false := by
  have e : (D.change id l).reg (s, i, p) = none := by
    show offF D.reg (accChange id l) (s, i, p) = none
    unfold offF; rw [if_pos h]
  unfold Dir.valid; rw [e]; rfl
end Go.Proofs.Ytediappljpkblaa
