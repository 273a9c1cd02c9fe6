/- cache.Directory's methods as triples. -/
import Derived.Test.YtediappljpkblaaBridge
import Derived.Test.YtediappljpkblaaSlI
import Derived.Test.YtediappljpkblaaDirFit
import Derived.Test.YtediappljpkblaaOpen
namespace Go.Proofs.Ytediappljpkblaa
set_option linter.unusedSimpArgs false
set_option linter.unusedVariables false
open Go.RowKit
abbrev dirH (B : DirB) (D : Dir) : HProp := atH B.has (fun w => DirAt w B D)
theorem dir_local (B : DirB) (D : Dir) : Local B.has (fun w => DirAt w B D) := fun w w' h d =>
  ⟨(h _ (by simp [DirB.has])).trans d.cells, d.ren.of_heap (h _ (by simp [DirB.has])), d.chg.of_heap (h _ (by simp [DirB.has])), d.reg.of_heap (h _ (by simp [DirB.has])), d.rc, d.rg, d.cg, d.reg1, by rw [mapSize_of_heap (h _ (by simp [DirB.has]))]; exact d.small⟩
theorem eInt_flat (l : List Int) : l.flatMap encI = l.map eInt := by
  induction l with
  | nil => rfl
  | cons x l ih => rw [List.flatMap_cons, ih]; rfl
theorem rdInts_of {w : World} {S : Nat → Prop} {Pw : World → Prop} {v : Value} {xs : List Int} {F : List HProp} (hs : Sat w (atH S Pw :: sl 1 encI v xs :: F)) : RdInts w (fun i => ¬ S i) v xs := by
  obtain ⟨r, L, h1, h2, h3, h4, h5, h6⟩ := Sat.cons_iff.1 hs
  cases L with
  | nil => cases h1
  | cons x L =>
    simp only [List.map_cons, List.cons.injEq] at h1
    have hx := h4.1 x (by simp)
    rw [h1.1] at hx
    have hxf := h5 x (by simp)
    have hxs := h6 x (by simp)
    obtain ⟨_, A, c, rfl, hA, hl, hc⟩ := hx
    refine ⟨A, c, rfl, fun h0 => ?_⟩
    obtain ⟨b, off, cs, T, fr, e0, hb, _⟩ := hc 0 h0 0 (.int .i64 xs[0]) rfl
    refine ⟨b, off, e0, fun hS => ?_, hl, fun j hj => ?_⟩
    · obtain ⟨o, ho⟩ := h2.1 b hS
      have := (hxs b).1 o ho
      rw [this] at hb; cases hb
    · obtain ⟨b', off', cs', T', fr', e1, hb', hv⟩ := hc j hj 0 (.int .i64 xs[j]) rfl
      rw [e0] at e1; cases e1
      have := (cell_of_heap (hxf _ _ _ hb') _).trans hv
      simp only [Nat.mul_one, Nat.add_zero] at this
      rw [this]; simp [hj]
def aDir : Dir := ⟨0, fun _ => none, fun _ => none, fun _ => none, 0⟩
theorem dnew_tri : Tri Try.prog 7 #[] [] (fun r => hex fun B : DirB => pack [pur (r = .pointer (some ⟨B.b, 0, none⟩)), dirH B aDir]) := by
  intro w F hs
  refine (new_any w).mono ?_
  rintro e w' ⟨B, rfl, hd, hf, hB⟩
  refine ⟨_, rfl, Same.fr hf, Sat.hex_iff.2 ⟨B, Sat.pack_iff.2 (Sat.pur_iff.2 ⟨rfl, atH_new hs hf (fun i hi => ⟨hB i hi, ?_⟩) (dir_local B aDir) hd⟩)⟩⟩
  rcases hi with rfl | rfl | rfl | rfl
  · exact (Array.getElem?_eq_some_iff.1 hd.cells).1
  · exact hd.ren.lt
  · exact hd.chg.lt
  · exact hd.reg.lt
theorem dregister_tri (B : DirB) (D : Dir) (s i p : Int) : Tri Try.prog 14 #[.pointer (some ⟨B.b, 0, none⟩), .int .i64 s, .int .i64 i, .int .i64 p] [dirH B D] (fun r => pack [pur (r = .int .i64 (D.ver (i, p))), dirH B (D.regd s i p)]) :=
  Tri.of_at (T := fun k => k = B.g) (fun _ h => by subst h; simp [DirB.has]) (dir_local B _) fun w F hs => register_any w B D s i p (atH_use hs (Take.head _ _))
theorem dvalid_tri (B : DirB) (D : Dir) (s i p v : Int) : Tri Try.prog 15 #[.pointer (some ⟨B.b, 0, none⟩), .int .i64 s, .int .i64 i, .int .i64 p, .int .i64 v] [dirH B D] (fun r => pack [pur (r = .bool (D.valid s i p v)), dirH B D]) :=
  Tri.of_qt fun w F hs => valid_any w B D s i p v (atH_use hs (Take.head _ _))
theorem dchange_tri (B : DirB) (D : Dir) (id : Int) (v : Value) (xs : List Int) (hc0 : 0 ≤ D.cnt) (hc1 : D.cnt < 4611686018427387904) : Tri Try.prog 10 #[.pointer (some ⟨B.b, 0, none⟩), .int .i64 id, v] [dirH B D, sl 1 encI v xs] (fun r => pack [pur (r = .tuple #[]), dirH B (D.change id xs), sl 1 encI v xs]) :=
  Tri.of_at (T := B.has) (fun _ h => h) (dir_local B _) fun w F hs => change_any w B D (fun i => ¬ B.has i) id v xs (atH_use hs (Take.head _ _)) (fun i hi hn => hn hi) (rdInts_of hs) hc0 hc1
theorem drenew_tri (B : DirB) (D : Dir) (id : Int) (hc0 : 0 ≤ D.cnt) (hc1 : D.cnt < 4611686018427387904) : Tri Try.prog 11 #[.pointer (some ⟨B.b, 0, none⟩), .int .i64 id] [dirH B D] (fun r => pack [pur (r = .tuple #[]), dirH B (D.renew id)]) :=
  Tri.of_at (T := B.has) (fun _ h => h) (dir_local B _) fun w F hs => renew_any w B D id (atH_use hs (Take.head _ _)) hc0 hc1
theorem dforget_tri (B : DirB) (D : Dir) (s : Int) : Tri Try.prog 12 #[.pointer (some ⟨B.b, 0, none⟩), .int .i64 s] [dirH B D] (fun r => pack [pur (r = .tuple #[]), dirH B (D.forget s)]) :=
  Tri.of_at (T := B.has) (fun _ h => h) (dir_local B _) fun w F hs => forgets_any w B D s (atH_use hs (Take.head _ _))
theorem dholders_tri (B : DirB) (D : Dir) (i p : Int) (hcap : D.cap ≤ 1099511627776) : Tri Try.prog 16 #[.pointer (some ⟨B.b, 0, none⟩), .int .i64 i, .int .i64 p] [dirH B D]
    (fun r => hex fun l : List Int => pack [pur (D.holds i p l ∧ l.Pairwise (· ≤ ·) ∧ l.length ≤ D.cap), own 3 1 encI r l, dirH B D]) := by
  intro w F hs
  refine (holders_any w B D i p (atH_use hs (Take.head _ _)) hcap).mono ?_
  rintro e w' ⟨v, l, rfl, h1, h2, h3, h4, h5⟩
  refine ⟨v, rfl, Same.fr h5, Sat.hex_iff.2 ⟨l, Sat.pack_iff.2 (Sat.pur_iff.2 ⟨⟨h1, h2, h4⟩, own_made hs h5 (by rw [eInt_flat]; exact h3)⟩)⟩⟩
theorem awake_tri : Tri Try.prog 6 #[] [] (fun r => pack [pur (r = .bool true)]) := Tri.of_qt fun w F _ => awake_any w
/-- the acts of the law's argument -/
theorem few_tri (w0 : World) (v : Value) (l : List Act53) (most : Int) (h : ActsAt w0 (fun i => i < w0.heap.size) v l) : Tri Try.prog 5 #[v, .int .i64 most] [old w0] (fun r => pack [pur (r = .bool (few53 l most)), old w0]) :=
  Tri.of_qt fun w F hs => few_any w _ v l most (by
    obtain ⟨r, _, _, h2, h3, _⟩ := Sat.cons_iff.1 hs
    have key : ∀ k : Nat, k < w0.heap.size → w.heap[k]? = w0.heap[k]? := fun k hk => (old_heap h2 h3 (Array.getElem?_eq_getElem hk)).trans (Array.getElem?_eq_getElem hk).symm
    have hsz : w0.heap.size ≤ w.heap.size := by
      rcases Nat.eq_zero_or_pos w0.heap.size with h0 | h0
      · omega
      · have := (Array.getElem?_eq_some_iff.1 ((key (w0.heap.size - 1) (by omega)).trans (Array.getElem?_eq_getElem (by omega)))).1
        omega
    have hfr : Fr (fun i => w0.heap.size ≤ i) w0 { w0 with heap := w.heap } := ⟨rfl, rfl, rfl, hsz, fun k hk _ => key k hk⟩
    have hw : ActsAt { w0 with heap := w.heap } (fun i => i < w0.heap.size) v l := h.fr hfr (fun i h1 h2 => by omega)
    exact hw)
end Go.Proofs.Ytediappljpkblaa
