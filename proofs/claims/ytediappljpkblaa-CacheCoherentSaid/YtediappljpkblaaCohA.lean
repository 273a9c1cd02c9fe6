/- CacheCoherent: what holds between the acts. Plain. -/
import Derived.Test.YtediappljpkblaaOnceA
namespace Go.Proofs.Ytediappljpkblaa
set_option linter.unusedSimpArgs false
set_option linter.unusedVariables false
set_option linter.unusedSectionVars false
open Go.RowKit
structure CInv (k : Nat) (Q : Int → Option PS) (data : Plc → Option Int) (D : Dir) : Prop where
  fit : D.fit
  cnt : D.cnt ≤ k
  small : ∀ q, 0 ≤ now data q ∧ now data q ≤ k
  pages : ∀ s x, Q s = some x → x.ord.length ≤ 2 * k ∧ ∀ (q : Plc) t u, x.F q = some (t, u) → q.2 ≤ 1000 ∧ u ≤ D.cnt ∧ (u = D.ver q → t = txt data q)
theorem CInv.new : CInv 0 (fun _ => none) (fun _ => none) aDir := ⟨fit_new, Int.le_refl _, fun q => by simp [now], fun _ _ h => (by cases h)⟩
theorem CInv.add {k : Nat} {Q : Int → Option PS} {data : Plc → Option Int} {D : Dir} (h : CInv k Q data D) (s : Int) (B : PoolB) : CInv k (putF Q s ⟨B, fun _ => none, []⟩) data D where
  fit := h.fit
  cnt := h.cnt
  small := h.small
  pages t x hx := by
    unfold putF at hx
    split at hx
    · cases hx
      exact ⟨Nat.zero_le _, fun q t u hq => by cases hq⟩
    · exact h.pages t x hx
theorem CInv.smallD {k : Nat} {Q : Int → Option PS} {data : Plc → Option Int} {D : Dir} (h : CInv k Q data D) (hk : k ≤ 1000000) : Small data := fun q => by have := h.small q; omega
theorem txt_eq {data data' : Plc → Option Int} {q : Plc} (h : data' q = data q) : txt data' q = txt data q := by unfold txt now; rw [h]
/-- data and directory change together -/
theorem CInv.turn {k : Nat} {Q : Int → Option PS} {data data' : Plc → Option Int} {D D' : Dir} (h : CInv k Q data D) (hf : D'.fit) (hc0 : D.cnt ≤ D'.cnt) (hc1 : D'.cnt ≤ D.cnt + 1) (hd : ∀ q, data' q = data q ∨ data' q = some ((k : Int) + 1))
    (hv : ∀ q, (D'.ver q = D.ver q ∧ data' q = data q) ∨ D'.ver q = D.cnt + 1) : CInv (k + 1) Q data' D' where
  fit := hf
  cnt := by have := h.cnt; omega
  small q := by
    have := h.small q
    unfold now at this ⊢
    rcases hd q with e | e
    · rw [e]; omega
    · rw [e]; simp only [Option.elim_some, id]; omega
  pages s x hx := by
    obtain ⟨h1, h2⟩ := h.pages s x hx
    refine ⟨by omega, fun q t u hq => ?_⟩
    obtain ⟨h3, h4, h5⟩ := h2 q t u hq
    refine ⟨h3, by omega, fun e => ?_⟩
    rcases hv q with ⟨h6, h7⟩ | h6
    · rw [txt_eq h7]; exact h5 (by rw [e, h6])
    · omega
theorem CInv.change {k : Nat} {Q : Int → Option PS} {data : Plc → Option Int} {D : Dir} (h : CInv k Q data D) (id : Int) (l : List Int) : CInv (k + 1) Q (fun q => if q.1 = id ∧ q.2 ∈ l then some ((k : Int) + 1) else data q) (D.change id l) := by
  refine h.turn (h.fit.change id l) (by show D.cnt ≤ D.cnt + 1; omega) (by show D.cnt + 1 ≤ D.cnt + 1; omega) (fun q => ?_) (fun q => ?_)
  · by_cases e : q.1 = id ∧ q.2 ∈ l
    · exact .inr (if_pos e)
    · exact .inl (if_neg e)
  · obtain ⟨i, p⟩ := q
    by_cases e : i = id ∧ p ∈ l
    · obtain ⟨rfl, hp⟩ := e
      exact .inr (ver_change_yes h.fit i p l (by simpa using hp))
    · refine .inl ⟨ver_change_no D id i p l ?_, if_neg e⟩
      simp only [Bool.and_eq_false_iff, beq_eq_false_iff_ne, List.contains_eq_mem, decide_eq_false_iff_not]
      by_cases h1 : i = id
      · exact .inr fun h2 => e ⟨h1, h2⟩
      · exact .inl h1
theorem CInv.renew {k : Nat} {Q : Int → Option PS} {data data' : Plc → Option Int} {D : Dir} (h : CInv k Q data D) (id : Int) (hd : ∀ q, data' q = data q ∨ (q.1 = id ∧ data' q = some ((k : Int) + 1))) : CInv (k + 1) Q data' (D.renew id) := by
  refine h.turn (h.fit.renew id) (by show D.cnt ≤ D.cnt + 1; omega) (by show D.cnt + 1 ≤ D.cnt + 1; omega) (fun q => ?_) (fun q => ?_)
  · rcases hd q with e | ⟨_, e⟩
    · exact .inl e
    · exact .inr e
  · obtain ⟨i, p⟩ := q
    by_cases e : i = id
    · subst e; exact .inr (ver_renew_yes h.fit i p)
    · refine .inl ⟨ver_renew_no D id i p e, ?_⟩
      rcases hd (i, p) with e2 | ⟨e2, _⟩
      · exact e2
      · exact absurd e2 e
theorem CInv.forget {k : Nat} {Q : Int → Option PS} {data : Plc → Option Int} {D : Dir} (h : CInv k Q data D) (s : Int) : CInv (k + 1) Q data (D.forget s) :=
  h.turn (h.fit.forget s) (Int.le_refl _) (by show D.cnt ≤ D.cnt + 1; omega) (fun q => .inl rfl) (fun q => .inl ⟨ver_forget D s q, rfl⟩)
/-- a reading -/
theorem CInv.read {k : Nat} {Q : Int → Option PS} {data : Plc → Option Int} {D : Dir} (h : CInv k Q data D) {s i n cap reads : Int} {x : PS} (hx : Q s = some x) {Y : RdX} {v : Value} (hR : ReadOK cap s i n data ⟨x.F, x.ord, D, reads⟩ v Y) :
    v = diskV data i n ∧ reads ≤ Y.reads ∧ Y.reads ≤ reads + 1 ∧ CInv (k + 1) (putF Q s ⟨x.B, Y.F, Y.ord⟩) data Y.D := by
  obtain ⟨hlen, hF⟩ := h.pages s x hx
  rcases hR with ⟨t, u, h1, h2, rfl, h4, h5, h6, h7⟩ | ⟨_, hr, hD, hreads, o, ho1, _, hp⟩
  · simp only at h1 h2 h4 h5 h6 h7
    obtain ⟨h8, h9, h10⟩ := hF _ _ _ h1
    have hu : u = D.ver (i, n) := by
      unfold Dir.valid at h2
      simp only [Bool.and_eq_true, beq_iff_eq] at h2
      exact h2.2.symm
    refine ⟨?_, by omega, by omega, by rw [h6]; exact h.fit, by rw [h6]; have := h.cnt; omega, fun q => by have := h.small q; omega, fun t' y hy => ?_⟩
    · unfold diskV
      rw [if_neg (by simp only at h8; omega), h10 hu]
    · rw [h6]
      unfold putF at hy
      split at hy
      · cases hy
        refine ⟨by simp only; omega, fun q a b hq => ?_⟩
        simp only at hq
        rw [h4] at hq
        exact hF q a b hq
      · obtain ⟨h11, h12⟩ := h.pages t' y hy
        exact ⟨by omega, h12⟩
  · simp only at hr hD hreads ho1 hp
    refine ⟨hr, by omega, by omega, by rw [hD]; exact h.fit.regd s i n, by rw [hD]; show D.cnt ≤ _; have := h.cnt; omega, fun q => by have := h.small q; omega, fun t' y hy => ?_⟩
    have hv : ∀ q, Y.D.ver q = D.ver q := fun q => by rw [hD, ver_regd]
    have hc : Y.D.cnt = D.cnt := by rw [hD]; rfl
    unfold putF at hy
    split at hy
    · cases hy
      rcases hp with ⟨_, h4, h5⟩ | ⟨hn, hput⟩
      · refine ⟨by simp only; rw [h5]; omega, fun q a b hq => ?_⟩
        simp only at hq
        rw [h4] at hq
        rw [hv, hc]
        exact hF q a b hq
      · refine ⟨by simp only; have := hput.len; omega, fun q a b hq => ?_⟩
        simp only at hq
        rw [hv, hc]
        by_cases e : q = (i, n)
        · subst e
          rcases hput.self with h5 | h5
          · rw [h5] at hq
            cases hq
            exact ⟨hn, h.fit.ver _, fun _ => rfl⟩
          · rw [h5] at hq; cases hq
        · rcases hput.other q e with h5 | h5
          · rw [h5] at hq; exact hF q a b hq
          · rw [h5] at hq; cases hq
    · obtain ⟨h11, h12⟩ := h.pages t' y hy
      refine ⟨by omega, fun q a b hq => ?_⟩
      rw [hv, hc]
      exact h12 q a b hq
end Go.Proofs.Ytediappljpkblaa
