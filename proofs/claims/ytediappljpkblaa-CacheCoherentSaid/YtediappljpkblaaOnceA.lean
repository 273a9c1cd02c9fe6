/- CacheOnce: what holds between the acts. Plain. -/
import Derived.Test.YtediappljpkblaaReadB
import Derived.Test.YtediappljpkblaaStar
namespace Go.Proofs.Ytediappljpkblaa
set_option linter.unusedSimpArgs false
set_option linter.unusedVariables false
set_option linter.unusedSectionVars false
open Go.RowKit
structure PS where
  B : PoolB
  F : FMap
  ord : List Plc
def poolOf (cap : Int) (Q : Int → Option PS) (s : Int) : HProp := match Q s with
  | some x => pool x.B cap x.F x.ord
  | none => emp
def ePtr (b : Nat) : Value := .pointer (some ⟨b, 0, none⟩)
def ptrs (Q : Int → Option PS) : Int → Option Nat := fun s => (Q s).map fun x => x.B.b
/-- the systems that have a pool, and no other -/
structure Syst (Q : Int → Option PS) (l : List Int) : Prop where
  nodup : l.Nodup
  mem : ∀ s, s ∈ l ↔ (Q s).isSome = true
theorem Syst.new : Syst (fun _ => none) [] := ⟨List.nodup_nil, fun s => by simp⟩
theorem poolOf_some {cap : Int} {Q : Int → Option PS} {s : Int} {x : PS} (h : Q s = some x) : poolOf cap Q s = pool x.B cap x.F x.ord := by unfold poolOf; rw [h]
theorem poolOf_put {cap : Int} {Q : Int → Option PS} {s : Int} {x : PS} {l : List Int} (h : s ∉ l) : big l (poolOf cap (putF Q s x)) = big l (poolOf cap Q) :=
  big_congr fun y hy => by
    have : y ≠ s := fun e => h (e ▸ hy)
    unfold poolOf putF
    rw [if_neg this]
theorem Syst.put {Q : Int → Option PS} {l : List Int} (h : Syst Q l) (s : Int) (x : PS) : Syst (putF Q s x) (s :: l.erase s) where
  nodup := List.nodup_cons.2 ⟨fun e => (List.Nodup.mem_erase_iff h.nodup).1 e |>.1 rfl, h.nodup.erase s⟩
  mem t := by
    unfold putF
    by_cases e : t = s
    · simp [e]
    · rw [if_neg e, ← h.mem t, List.mem_cons, List.Nodup.mem_erase_iff h.nodup]
      simp [e]
theorem Syst.not {Q : Int → Option PS} {l : List Int} (h : Syst Q l) (s : Int) : s ∉ l.erase s := fun e => (List.Nodup.mem_erase_iff h.nodup).1 e |>.1 rfl
theorem ptrs_put (Q : Int → Option PS) (s : Int) (x : PS) : ptrs (putF Q s x) = putF (ptrs Q) s x.B.b := by
  funext t
  unfold ptrs putF
  split <;> rfl
/-- one pool taken out -/
theorem On.pool_out {w0 w : World} {cap : Int} {Q : Int → Option PS} {l : List Int} {Γ : List HProp} {s : Int} {x : PS} (h : Syst Q l) (hq : Q s = some x) (hs : On w0 w (big l (poolOf cap Q) :: Γ)) : On w0 w (pool x.B cap x.F x.ord :: big (l.erase s) (poolOf cap Q) :: Γ) := by
  rw [← poolOf_some (cap := cap) hq]
  exact hs.big_take ((h.mem s).2 (by rw [hq]; rfl))
/-- and put back -/
theorem On.pool_in {w0 w : World} {cap : Int} {Q : Int → Option PS} {l : List Int} {Γ : List HProp} {s : Int} (x : PS) (h : Syst Q l) (hs : On w0 w (pool x.B cap x.F x.ord :: big (l.erase s) (poolOf cap Q) :: Γ)) : On w0 w (big (s :: l.erase s) (poolOf cap (putF Q s x)) :: Γ) := by
  refine On.big_put ?_
  rw [poolOf_put (h.not s), poolOf_some (cap := cap) (Q := putF Q s x) (s := s) (x := x) (if_pos rfl)]
  exact hs
theorem erase_not {l : List Int} {s : Int} (h : s ∉ l) : l.erase s = l := List.erase_of_not_mem h
abbrev K3 := Int × Int × Int
def zeroS : ByteArray := ⟨#[48]⟩
theorem dec_zero : dec 0 = zeroS := by rw [dec]; rfl
def seenF (K : List K3) : K3 → Option Bool := fun e => if e ∈ K then some true else none
theorem seenF_put (K : List K3) (e : K3) : putF (seenF K) e true = seenF (e :: K) := by
  funext x
  unfold putF seenF
  by_cases h : x = e <;> simp [h]
theorem seenF_in (K : List K3) (e : K3) (h : e ∈ K) : putF (seenF K) e true = seenF K := by
  funext x
  unfold putF seenF
  by_cases h2 : x = e
  · subst h2; simp [h]
  · simp [h2]
theorem seenF_mem (K : List K3) (e : K3) : e ∈ K ↔ (seenF K e).isSome = true := by
  unfold seenF
  by_cases h : e ∈ K <;> simp [h]
/-- what holds behind k acts: K was read, and no more -/
structure OInv (k : Nat) (Q : Int → Option PS) (K : List K3) (D : Dir) : Prop where
  pages : ∀ s x, Q s = some x → x.ord.length ≤ k ∧ ∀ q : Plc, x.F q = if (s, q) ∈ K then some (zeroS, 0) else none
  owner : ∀ s (q : Plc), (s, q) ∈ K → (Q s).isSome = true
  nodup : K.Nodup
  few : K.length ≤ k
  ren : D.ren = fun _ => none
  chg : D.chg = fun _ => none
  reg : ∀ e ∈ K, D.reg e = some true
theorem OInv.new : OInv 0 (fun _ => none) [] aDir := ⟨fun _ _ h => (by cases h), fun _ _ h => (by simp at h), List.nodup_nil, Nat.le_refl _, rfl, rfl, fun _ h => (by simp at h)⟩
theorem OInv.mono {k k' : Nat} {Q : Int → Option PS} {K : List K3} {D : Dir} (h : OInv k Q K D) (hk : k ≤ k') : OInv k' Q K D :=
  ⟨fun s x hx => ⟨Nat.le_trans (h.pages s x hx).1 hk, (h.pages s x hx).2⟩, h.owner, h.nodup, Nat.le_trans h.few hk, h.ren, h.chg, h.reg⟩
/-- a system without a pool gets an empty one -/
theorem OInv.add {k : Nat} {Q : Int → Option PS} {K : List K3} {D : Dir} (h : OInv k Q K D) {s : Int} (hs : Q s = none) (B : PoolB) : OInv k (putF Q s ⟨B, fun _ => none, []⟩) K D where
  pages t x hx := by
    unfold putF at hx
    split at hx
    · rename_i e
      cases hx
      refine ⟨Nat.zero_le _, fun q => ?_⟩
      rw [if_neg]
      intro hm
      have := h.owner t q hm
      rw [e, hs] at this
      cases this
    · exact h.pages t x hx
  owner t q hm := by
    unfold putF
    split
    · rfl
    · exact h.owner t q hm
  nodup := h.nodup
  few := h.few
  ren := h.ren
  chg := h.chg
  reg := h.reg
theorem OInv.ver {k : Nat} {Q : Int → Option PS} {K : List K3} {D : Dir} (h : OInv k Q K D) (q : Plc) : D.ver q = 0 := by
  unfold Dir.ver
  rw [h.ren, h.chg]
  rfl
/-- a reading -/
theorem OInv.step {k : Nat} {Q : Int → Option PS} {K : List K3} {D : Dir} (h : OInv k Q K D) (hk : k < 40) {s i n : Int} (hn : n ≤ 1000) {x : PS} (hx : Q s = some x) {Y : RdX} {v : Value} (hR : ReadOK 40 s i n (fun _ => none) ⟨x.F, x.ord, D, K.length⟩ v Y) :
    v = .tuple #[.string zeroS, .int .i64 0] ∧ ∃ K' : List K3, OInv (k + 1) (putF Q s ⟨x.B, Y.F, Y.ord⟩) K' Y.D ∧ Y.reads = K'.length ∧ putF (seenF K) (s, i, n) true = seenF K' := by
  obtain ⟨hlen, hF⟩ := h.pages s x hx
  rcases hR with ⟨t, u, h1, h2, rfl, h4, h5, h6, h7⟩ | ⟨hno, hr, hD, hreads, o, ho1, ho2, hp⟩
  · -- it is in the pool
    simp only at h1 h2 h4 h5 h6 h7
    rw [hF (i, n)] at h1
    by_cases hm : (s, i, n) ∈ K
    · rw [if_pos hm] at h1
      cases h1
      refine ⟨rfl, K, ?_, h7, seenF_in K _ hm⟩
      refine ⟨fun t y hy => ?_, fun t q hq => ?_, h.nodup, by have := h.few; omega, by rw [h6]; exact h.ren, by rw [h6]; exact h.chg, by rw [h6]; exact h.reg⟩
      · unfold putF at hy
        split at hy
        · rename_i e
          cases hy
          exact ⟨by simp only; omega, fun q => by simp only; rw [h4, e]; exact hF q⟩
        · have := h.pages t y hy
          exact ⟨by omega, this.2⟩
      · unfold putF
        split
        · rfl
        · exact h.owner t q hq
    · rw [if_neg hm] at h1; cases h1
  · simp only at hno hD hreads ho1 ho2 hp
    have hm : (s, i, n) ∉ K := by
      intro hm
      have h1 := hno zeroS 0 (by rw [hF (i, n), if_pos hm])
      unfold Dir.valid at h1
      rw [h.reg _ hm, h.ver] at h1
      simp at h1
    have hnone : x.F (i, n) = none := by rw [hF (i, n), if_neg hm]
    have ho := ho2 hnone
    subst ho
    rcases hp with ⟨h1, _⟩ | ⟨_, hput⟩
    · omega
    have htxt : txt (fun _ => none) (i, n) = zeroS := dec_zero
    rw [htxt, h.ver] at hput
    have hall := hput.all (by omega)
    refine ⟨?_, (s, i, n) :: K, ?_, by rw [hreads]; simp, seenF_put K _⟩
    · rw [hr]
      unfold diskV
      rw [if_neg (by omega), htxt]
    · refine ⟨fun t y hy => ?_, fun t q hq => ?_, List.nodup_cons.2 ⟨hm, h.nodup⟩, by have := h.few; simp; omega, by rw [hD]; exact h.ren, by rw [hD]; exact h.chg, fun e he => ?_⟩
      · unfold putF at hy
        split at hy
        · rename_i e
          cases hy
          refine ⟨by simp only; have := hput.len; omega, fun q => ?_⟩
          simp only
          rw [hall, e]
          unfold putF
          by_cases hq : q = (i, n)
          · subst hq; simp
          · rw [if_neg hq, hF q]
            have : ((s, q) ∈ (s, i, n) :: K) ↔ (s, q) ∈ K := by simp [hq]
            simp only [this]
        · rename_i e
          have h2 := h.pages t y hy
          refine ⟨by omega, fun q => ?_⟩
          rw [h2.2 q]
          have : ((t, q) ∈ (s, i, n) :: K) ↔ (t, q) ∈ K := by
            rw [List.mem_cons]
            constructor
            · rintro (h3 | h3)
              · exact absurd (congrArg Prod.fst h3) e
              · exact h3
            · exact .inr
          simp only [this]
      · unfold putF
        split
        · rfl
        · rename_i e
          rcases List.mem_cons.1 hq with h3 | h3
          · exact absurd (congrArg Prod.fst h3) e
          · exact h.owner t q h3
      · rw [hD]
        show putF D.reg (s, i, n) true e = some true
        unfold putF
        split
        · rfl
        · rename_i e'
          rcases List.mem_cons.1 he with h3 | h3
          · exact absurd h3 e'
          · exact h.reg e h3
end Go.Proofs.Ytediappljpkblaa
