/- Memory: 'Fr S w w'' says that of what lay in w nothing has turned but blocks of S; a Go map as a function from keys to elements, with the laws of its operations. No program in sight. -/
import Derived.WalkKit
import Derived.WalkSpells
import Derived.WalkLawsBesides
import Derived.Maps.RangeWalk
import Derived.Maps.OwnSet
namespace Go.Proofs.Ytediappljpkblaa
set_option linter.unusedSimpArgs false
set_option linter.unusedVariables false
open Go.RowKit

/-- OF WHAT LAY IN w NOTHING HAS TURNED, BUT FOR BLOCKS OF S. -/
structure Fr (S : Nat → Prop) (w w' : World) : Prop where
  os : w'.os = w.os
  tape : w'.tape = w.tape
  output : w'.output = w.output
  size : w.heap.size ≤ w'.heap.size
  block : ∀ k, k < w.heap.size → ¬ S k → w'.heap[k]? = w.heap[k]?

def Emp : Nat → Prop := fun _ => False
/-- nothing old has turned -/
abbrev Qt (w w' : World) : Prop := Fr Emp w w'

theorem Fr.refl (S : Nat → Prop) (w : World) : Fr S w w := ⟨rfl, rfl, rfl, Nat.le_refl _, fun _ _ _ => rfl⟩
theorem Fr.trans {S T U : Nat → Prop} {a b c : World} (h : Fr S a b) (k : Fr T b c) (hs : ∀ i, S i → U i) (ht : ∀ i, i < a.heap.size → T i → U i) : Fr U a c :=
  ⟨k.os.trans h.os, k.tape.trans h.tape, k.output.trans h.output, Nat.le_trans h.size k.size, fun i hi hu =>
    (k.block i (Nat.lt_of_lt_of_le hi h.size) (fun x => hu (ht i hi x))).trans (h.block i hi (fun x => hu (hs i x)))⟩
theorem Fr.trans' {S : Nat → Prop} {a b c : World} (h : Fr S a b) (k : Fr S b c) : Fr S a c := h.trans k (fun _ x => x) (fun _ _ x => x)
theorem Fr.mono {S T : Nat → Prop} {a b : World} (h : Fr S a b) (hs : ∀ i, i < a.heap.size → S i → T i) : Fr T a b :=
  ⟨h.os, h.tape, h.output, h.size, fun i hi hu => h.block i hi (fun x => hu (hs i hi x))⟩
theorem Fr.drew {S : Nat → Prop} {a w : World} (h : Fr S a w) : Fr S a w.drew := ⟨h.os, h.tape, h.output, h.size, h.block⟩
theorem Fr.drewN {S : Nat → Prop} {a w : World} (h : Fr S a w) (n : Nat) : Fr S a (w.drewN n) := ⟨h.os, h.tape, h.output, h.size, h.block⟩
theorem Fr.alloc {S : Nat → Prop} {a w : World} (h : Fr S a w) (o : Obj) : Fr S a (w.alloc o) :=
  h.trans' ⟨rfl, rfl, rfl, by simp, fun k hk _ => Below.heap_alloc _ _ _ hk⟩
theorem Fr.setCell {S : Nat → Prop} {a w : World} (h : Fr S a w) {p : Addr} (hp : a.heap.size ≤ p.block ∨ S p.block) (u : Value) : Fr S a (w.setCell p u) :=
  h.trans (T := fun i => i = p.block) ⟨rfl, rfl, rfl, by simp [World.setCell], fun k _ hn => Below.heap_setCell _ _ _ _ hn⟩ (fun _ x => x)
    (fun i hi e => by rcases hp with hp | hp; · omega
                      · rw [e]; exact hp)
theorem Fr.grown {S : Nat → Prop} {a w w' : World} (h : Fr S a w) {row : Option Nat} (hg : w.grownBy w' row) (hr : ∀ k, row = some k → a.heap.size ≤ k ∨ S k) : Fr S a w' :=
  h.trans (T := fun i => row = some i) ⟨hg.os, hg.tape, hg.output, hg.size, fun k hk hn => hg.block k hk (fun e => hn e.symm)⟩ (fun _ x => x)
    (fun i hi e => by rcases hr i e with hp | hp; · omega
                      · exact hp)
theorem Fr.heap {S : Nat → Prop} {w w' : World} (h : Fr S w w') {b : Nat} {o : Obj} (hb : w.heap[b]? = some o) (hs : ¬ S b) : w'.heap[b]? = some o :=
  (h.block b (Array.getElem?_eq_some_iff.1 hb).1 hs).trans hb
theorem Fr.cell {S : Nat → Prop} {w w' : World} (h : Fr S w w') {a : Addr} {v : Value} (ha : w.cell? a = some v) (hs : ¬ S a.block) : w'.cell? a = some v :=
  (World.cell?_of_block (w := w) (h.block _ (World.block_lt_of_cell? w a ha) hs)).trans ha
theorem Fr.below {S : Nat → Prop} {w w' : World} (h : Fr S w w') {B : Nat} (hB : B ≤ w.heap.size) (hs : ∀ i, S i → B ≤ i) : Below B w w' :=
  ⟨h.os, h.tape, h.output, h.size, fun k hk => h.block k (by omega) (fun x => by have := hs k x; omega)⟩
theorem below_fr {B : Nat} {w w' : World} (h : Below B w w') : Fr (fun i => B ≤ i) w w' :=
  ⟨h.os, h.tape, h.output, h.size, fun k _ hn => h.block k (by omega)⟩

theorem cell_al {w : World} {o : Obj} {a : Addr} {v : Value} (h : w.cell? a = some v) : (w.alloc o).cell? a = some v := by
  rw [World.cell?_alloc_lt _ _ _ (World.block_lt_of_cell? w a h)]; exact h
theorem cell_at {w : World} {c : Array Value} {t : TypeId} (b i : Nat) {v : Value} (hb : b = w.heap.size) (hv : c[i]? = some v) : (w.alloc (.cells c t)).cell? ⟨b, i, none⟩ = some v := by
  subst hb; rw [World.cell?_alloc_new]; exact hv
theorem heap_at (w : World) (o : Obj) (b : Nat) (hb : b = w.heap.size) : (w.alloc o).heap[b]? = some o := hb ▸ heap_alloc_new w o
theorem own_base {w : World} {B B' : Nat} {e : TypeId} {size : Nat} {v : Value} {n : Nat} {xs : List Value} (h : w.ownsRow B e size v n xs) (hb : B' ≤ B) : w.ownsRow B' e size v n xs := by
  refine ⟨h.1, ?_⟩
  rcases h.2 with h2 | ⟨g, cap, cur, hv, hg, r⟩
  · exact .inl h2
  · exact .inr ⟨g, cap, cur, hv, Nat.le_trans hb hg, r⟩
theorem own_fr {w w' : World} {B : Nat} {e : TypeId} {size : Nat} {v : Value} {n : Nat} {xs : List Value} {S : Nat → Prop} (h : w.ownsRow B e size v n xs) (hf : Fr S w w') (hs : ∀ k, v.ownBlock = some k → ¬ S k) : w'.ownsRow B e size v n xs := by
  refine ⟨h.1, ?_⟩
  rcases h.2 with h2 | ⟨g, cap, cur, hv, hg, hh, r⟩
  · exact .inl h2
  · exact .inr ⟨g, cap, cur, hv, hg, hf.heap hh (hs g (by rw [hv]; rfl)), r⟩
/-- w, one block of it another object -/
def setB (w : World) (b : Nat) (o : Obj) : World := { w with heap := w.heap.setIfInBounds b o }
theorem setB_same {w : World} {b : Nat} {o o' : Obj} (h : w.heap[b]? = some o') : (setB w b o).heap[b]? = some o := by
  have := (Array.getElem?_eq_some_iff.1 h).1
  simp [setB, this]
theorem setB_other {w : World} {b k : Nat} {o : Obj} (h : k ≠ b) : (setB w b o).heap[k]? = w.heap[k]? := by
  simp only [setB, Array.getElem?_setIfInBounds]
  rw [if_neg (fun e => h e.symm)]
theorem setB_size (w : World) (b : Nat) (o : Obj) : (setB w b o).heap.size = w.heap.size := by simp [setB]
theorem Fr.setB (w : World) (b : Nat) (o : Obj) : Fr (fun i => i = b) w (setB w b o) :=
  ⟨rfl, rfl, rfl, by rw [setB_size]; omega, fun _ _ hn => setB_other hn⟩

/-! ### Keys -/
/-- What the operations on a map ask of a type of keys: 'ek' spells a key. -/
structure KeyT (P : Program) (kt : TypeId) {K : Type} (ek : K → Value) : Prop where
  inj : ∀ {a b : K}, ek a = ek b → a = b
  check : ∀ (w : World) (em : Bool) (k : K), (Instr.checkKey em 10000 kt (ek k)).run P w = .ok () w
  find : ∀ (w : World) (k : K) (es : List MapEntry), (∀ e ∈ es, ∃ k', e.key = ek k') →
    ((Instr.findKey kt (ek k) es).run P w = .ok none w ∧ ∀ e ∈ es, e.key ≠ ek k) ∨
    ∃ j e, (Instr.findKey kt (ek k) es).run P w = .ok (some (j, e.val)) w ∧ es[j]? = some e ∧ e.key = ek k
  stays : ∀ (w : World) (k : K), (Instr.keyThatStays (ek k) (ek k)).run P w = .ok (ek k) w

section
variable {P : Program} {kt : TypeId} {K : Type} {ek : K → Value}
theorem asking_spec [DecidableEq K] (inj : ∀ {a b : K}, ek a = ek b → a = b) (heq : ∀ w a b, (Op.equal kt (ek a) (ek b)).run P w = .ok (decide (a = b)) w) (w : World) (k : K) :
    ∀ (es : List MapEntry) (i : Nat), (∀ e ∈ es, ∃ k', e.key = ek k') →
    ((Instr.findAsking kt (ek k) es i).run P w = .ok none w ∧ ∀ e ∈ es, e.key ≠ ek k) ∨
    ∃ j e, (Instr.findAsking kt (ek k) es i).run P w = .ok (some (i + j, e.val)) w ∧ es[j]? = some e ∧ e.key = ek k
  | [], _, _ => .inl ⟨by simp [Instr.findAsking], by simp⟩
  | e :: es, i, h => by
    obtain ⟨k', hk'⟩ := h e (by simp)
    unfold Instr.findAsking
    simp only [Sem.run_bind, hk', heq, Result.andThen_ok, Sem.run_ite]
    by_cases hd : k = k'
    · right
      refine ⟨0, e, by simp [hd], by simp, by rw [hk', hd]⟩
    · simp only [hd, decide_false, Bool.false_eq_true, if_false]
      rcases asking_spec inj heq w k es (i + 1) (fun x hx => h x (by simp [hx])) with ⟨h1, h2⟩ | ⟨j, x, h1, h2, h3⟩
      · left
        refine ⟨h1, fun x hx => ?_⟩
        rcases List.mem_cons.1 hx with rfl | hx
        · rw [hk']; exact fun e => hd (inj e).symm
        · exact h2 x hx
      · right
        exact ⟨j + 1, x, by rw [h1, show i + 1 + j = i + (j + 1) from by omega], by simpa using h2, h3⟩
/-- Keys that '==' decides. -/
theorem KeyT.of_equal [DecidableEq K] {d : TypeDesc} (hk : P.underlying kt = some d) (hnow : ∀ a b, Instr.sameNow d (ek a) (ek b) = none) (inj : ∀ {a b : K}, ek a = ek b → a = b)
    (heq : ∀ w a b, (Op.equal kt (ek a) (ek b)).run P w = .ok (decide (a = b)) w) (check : ∀ (w : World) (em : Bool) (k : K), (Instr.checkKey em 10000 kt (ek k)).run P w = .ok () w)
    (stays : ∀ (w : World) (k : K), (Instr.keyThatStays (ek k) (ek k)).run P w = .ok (ek k) w) : KeyT P kt ek where
  inj := inj
  check := check
  stays := stays
  find w k es h := by
    unfold Instr.findKey
    simp only [Sem.run_bind, run_underlying hk, Result.andThen_ok]
    cases es with
    | nil => left; simp [Instr.findNow]
    | cons e es =>
      obtain ⟨k', hk'⟩ := h e (by simp)
      simp only [Instr.findNow, hk', hnow]
      rcases asking_spec inj heq w k (e :: es) 0 h with ⟨h1, h2⟩ | ⟨j, x, h1, h2, h3⟩
      · exact .inl ⟨h1, h2⟩
      · exact .inr ⟨j, x, by simpa using h1, h2, h3⟩
/-- Keys of an integer's type. -/
theorem KeyT.int {q : IntKind} (hk : P.underlying kt = some (.int q)) : KeyT P kt (fun n : Int => .int q n) where
  inj h := by cases h; rfl
  check w em k := by
    exact MapKept.run_checkKey (k := .int q k) hk rfl em 9999
  stays w k := by
    show (Instr.keyThatStays _ _).run P w = _
    unfold Instr.keyThatStays
    rw [if_pos (by simp [Instr.sameBits])]
    rfl
  find w k es h := by
    have key : ∀ (es : List MapEntry) (i : Nat), (∀ e ∈ es, ∃ k' : Int, e.key = .int q k') →
        (Instr.findNow (.int q) (.int q k) es i = some none ∧ ∀ e ∈ es, e.key ≠ .int q k) ∨
        ∃ j e, Instr.findNow (.int q) (.int q k) es i = some (some (i + j, e.val)) ∧ es[j]? = some e ∧ e.key = .int q k := by
      intro es
      induction es with
      | nil => intro i _; left; simp [Instr.findNow]
      | cons e es ih =>
        intro i h
        obtain ⟨k', hk'⟩ := h e (by simp)
        simp only [Instr.findNow, hk', Instr.sameNow, if_true]
        by_cases hd : k = k'
        · right; exact ⟨0, e, by simp [hd], by simp, by rw [hk', hd]⟩
        · simp only [beq_eq_false_iff_ne.2 hd]
          rcases ih (i + 1) (fun x hx => h x (by simp [hx])) with ⟨h1, h2⟩ | ⟨j, x, h1, h2, h3⟩
          · left
            refine ⟨h1, fun x hx => ?_⟩
            rcases List.mem_cons.1 hx with rfl | hx
            · rw [hk']; exact fun e => hd (by cases e; rfl)
            · exact h2 x hx
          · right; exact ⟨j + 1, x, by rw [h1, show i + 1 + j = i + (j + 1) from by omega], by simpa using h2, h3⟩
    unfold Instr.findKey
    simp only [Sem.run_bind, run_underlying hk, Result.andThen_ok]
    rcases key es 0 h with ⟨h1, h2⟩ | ⟨j, x, h1, h2, h3⟩
    · left; exact ⟨by rw [h1]; rfl, h2⟩
    · right; exact ⟨j, x, by rw [h1]; simp, h2, h3⟩
end

/-! ### A map -/
section
variable {K V : Type} {ek : K → Value} {ev : V → Value}
/-- The entries of a map that holds F. -/
structure Good (ek : K → Value) (ev : V → Value) (es : Array MapEntry) (clock : Nat) (F : K → Option V) : Prop where
  key : ∀ e ∈ es.toList, ∃ k v, e.key = ek k ∧ e.val = ev v ∧ F k = some v
  all : ∀ k v, F k = some v → ∃ e ∈ es.toList, e.key = ek k ∧ e.val = ev v
  dist : es.toList.Pairwise (fun a b => a.key ≠ b.key)
  old : ∀ e ∈ es.toList, e.born < clock
  born : es.toList.Pairwise (fun a b => a.born ≠ b.born)
/-- BLOCK b IS A MAP THAT HOLDS F. -/
def IsMap (w : World) (b : Nat) (ek : K → Value) (ev : V → Value) (F : K → Option V) : Prop :=
  ∃ es clock, w.heap[b]? = some (.map es clock) ∧ Good ek ev es clock F
/-- BLOCK r IS AN ITERATOR OVER THE MAP b, which holds F; S: the keys that have come; n: how many are still to come. -/
def IsIter (w : World) (b r : Nat) (ek : K → Value) (ev : V → Value) (F : K → Option V) (S : K → Prop) (n : Nat) : Prop :=
  ∃ es clock seen, w.heap[b]? = some (.map es clock) ∧ Good ek ev es clock F ∧ w.heap[r]? = some (.mapIter (some b) clock seen clock) ∧
    (∀ e ∈ es.toList, ∀ k, e.key = ek k → (seen.contains e.born = true ↔ S k)) ∧ (es.toList.filter fun e => !seen.contains e.born).length = n

/-- how many entries a map has -/
def mapSize (w : World) (b : Nat) : Nat := match w.heap[b]? with
  | some (.map es _) => es.size
  | _ => 0
theorem mapSize_made (w : World) (b : Nat) (hb : b = w.heap.size) : mapSize (w.alloc (.map #[] 0)) b ≤ 0 := by
  unfold mapSize; rw [heap_at w _ b hb]; simp
theorem mapSize_of_heap {w w' : World} {b : Nat} (hb : w'.heap[b]? = w.heap[b]?) : mapSize w' b = mapSize w b := by unfold mapSize; rw [hb]
theorem IsMap.lt {w : World} {b : Nat} {F : K → Option V} (h : IsMap w b ek ev F) : b < w.heap.size := by
  obtain ⟨es, clock, hb, _⟩ := h
  exact (Array.getElem?_eq_some_iff.1 hb).1
theorem IsMap.of_heap {w w' : World} {b : Nat} {F : K → Option V} (h : IsMap w b ek ev F) (hb : w'.heap[b]? = w.heap[b]?) : IsMap w' b ek ev F := by
  obtain ⟨es, clock, h1, h2⟩ := h
  exact ⟨es, clock, hb.trans h1, h2⟩
theorem IsMap.fr {w w' : World} {b : Nat} {F : K → Option V} {S : Nat → Prop} (h : IsMap w b ek ev F) (hf : Fr S w w') (hs : ¬ S b) : IsMap w' b ek ev F :=
  h.of_heap (hf.block b h.lt hs)
theorem IsMap.made (w : World) : IsMap (w.alloc (.map #[] 0)) w.heap.size ek ev (fun _ => none) :=
  ⟨#[], 0, heap_alloc_new w _, ⟨by simp, by simp, by simp, by simp, by simp⟩⟩
theorem IsMap.made' {w : World} (b : Nat) (hb : b = w.heap.size) : IsMap (w.alloc (.map #[] 0)) b ek ev (fun _ => none) := hb ▸ IsMap.made w
theorem IsMap.alloc {w : World} {b : Nat} {F : K → Option V} (h : IsMap w b ek ev F) (o : Obj) : IsMap (w.alloc o) b ek ev F := h.of_heap (Below.heap_alloc _ _ _ h.lt)
theorem IsIter.map {w : World} {b r : Nat} {F : K → Option V} {S : K → Prop} {n : Nat} (h : IsIter w b r ek ev F S n) : IsMap w b ek ev F := by
  obtain ⟨es, clock, seen, h1, h2, _⟩ := h
  exact ⟨es, clock, h1, h2⟩
theorem IsIter.lt {w : World} {b r : Nat} {F : K → Option V} {S : K → Prop} {n : Nat} (h : IsIter w b r ek ev F S n) : r < w.heap.size := by
  obtain ⟨es, clock, seen, _, _, h3, _⟩ := h
  exact (Array.getElem?_eq_some_iff.1 h3).1
theorem IsIter.of_heap {w w' : World} {b r : Nat} {F : K → Option V} {S : K → Prop} {n : Nat} (h : IsIter w b r ek ev F S n) (hb : w'.heap[b]? = w.heap[b]?) (hr : w'.heap[r]? = w.heap[r]?) : IsIter w' b r ek ev F S n := by
  obtain ⟨es, clock, seen, h1, h2, h3, h4⟩ := h
  exact ⟨es, clock, seen, hb.trans h1, h2, hr.trans h3, h4⟩
theorem IsIter.fr {w w' : World} {b r : Nat} {F : K → Option V} {S : K → Prop} {n : Nat} {T : Nat → Prop} (h : IsIter w b r ek ev F S n) (hf : Fr T w w') (hb : ¬ T b) (hr : ¬ T r) : IsIter w' b r ek ev F S n :=
  h.of_heap (hf.block b h.map.lt hb) (hf.block r h.lt hr)
/-- how many entries are still to come -/
def iterLeft (w : World) (b r : Nat) : Nat := match w.heap[b]?, w.heap[r]? with
  | some (.map es _), some (.mapIter _ _ seen _) => (es.toList.filter fun e => !seen.contains e.born).length
  | _, _ => 0
theorem IsIter.left_eq {w : World} {b r : Nat} {F : K → Option V} {S : K → Prop} {n : Nat} (h : IsIter w b r ek ev F S n) : iterLeft w b r = n := by
  obtain ⟨es, clock, seen, h1, _, h3, _, h5⟩ := h
  unfold iterLeft; rw [h1, h3]; exact h5
theorem IsIter.le_size {w : World} {b r : Nat} {F : K → Option V} {S : K → Prop} {n : Nat} (h : IsIter w b r ek ev F S n) : n ≤ mapSize w b := by
  obtain ⟨es, clock, seen, h1, _, _, _, h5⟩ := h
  unfold mapSize; rw [h1, ← h5]
  exact List.length_filter_le _ _
theorem IsMap.size_fr {w w' : World} {b : Nat} {F : K → Option V} {S : Nat → Prop} (h : IsMap w b ek ev F) (hf : Fr S w w') (hs : ¬ S b) : mapSize w' b = mapSize w b :=
  mapSize_of_heap (hf.block b h.lt hs)
theorem IsIter.ne {w : World} {b r : Nat} {F : K → Option V} {S : K → Prop} {n : Nat} (h : IsIter w b r ek ev F S n) : b ≠ r := by
  obtain ⟨es, clock, seen, h1, _, h3, _⟩ := h
  intro e; subst e; rw [h1] at h3; cases h3

variable {P : Program} {kt et t : TypeId}
theorem good_find (KT : KeyT P kt ek) {es : Array MapEntry} {clock : Nat} {F : K → Option V} (G : Good ek ev es clock F) (w : World) (k : K) :
    ((Instr.findKey kt (ek k) es.toList).run P w = .ok none w ∧ F k = none ∧ ∀ e ∈ es.toList, e.key ≠ ek k) ∨
    ∃ j e v, (Instr.findKey kt (ek k) es.toList).run P w = .ok (some (j, e.val)) w ∧ es.toList[j]? = some e ∧ e.key = ek k ∧ e.val = ev v ∧ F k = some v := by
  rcases KT.find w k es.toList (fun e he => by obtain ⟨k', _, h, _⟩ := G.key e he; exact ⟨k', h⟩) with ⟨h1, h2⟩ | ⟨j, e, h1, h2, h3⟩
  · left
    refine ⟨h1, ?_, h2⟩
    cases hF : F k with
    | none => rfl
    | some v => obtain ⟨e, he, hk, _⟩ := G.all k v hF; exact absurd hk (h2 e he)
  · right
    obtain ⟨k', v, hk', hv, hF⟩ := G.key e (List.mem_of_getElem? h2)
    have : k' = k := KT.inj (hk'.symm.trans h3)
    subst this
    exact ⟨j, e, v, h1, h2, h3, hv, hF⟩
/-- 'm[k]', in every world in which the block is as it is here. -/
theorem IsMap.lookup {w : World} {b : Nat} {F : K → Option V} (h : IsMap w b ek ev F) (KT : KeyT P kt ek) (ht : P.underlying t = some (.map kt et)) {z : Value} (hz : ∀ w, (zeroValue et).run P w = .ok z w) (k : K)
    (w' : World) (hb : w'.heap[b]? = w.heap[b]?) : (Instr.lookup t (.map (some b)) (ek k) false).run P w' = .ok ((F k).elim z ev) w' := by
  obtain ⟨es, clock, h1, G⟩ := h
  have h1' := hb.trans h1
  rcases good_find KT G w' k with ⟨h2, h3, _⟩ | ⟨j, e, v, h2, _, _, h4, h5⟩
  · simp [Instr.lookup, run_underlying ht, getObj, Sem.run, h1', KT.check, h2, hz, h3]
  · simp [Instr.lookup, run_underlying ht, getObj, Sem.run, h1', KT.check, h2, h4, h5]
theorem IsMap.lookup_ok {w : World} {b : Nat} {F : K → Option V} (h : IsMap w b ek ev F) (KT : KeyT P kt ek) (ht : P.underlying t = some (.map kt et)) {z : Value} (hz : ∀ w, (zeroValue et).run P w = .ok z w) (k : K)
    (w' : World) (hb : w'.heap[b]? = w.heap[b]?) : (Instr.lookup t (.map (some b)) (ek k) true).run P w' = .ok (.tuple #[(F k).elim z ev, .bool (F k).isSome]) w' := by
  obtain ⟨es, clock, h1, G⟩ := h
  have h1' := hb.trans h1
  rcases good_find KT G w' k with ⟨h2, h3, _⟩ | ⟨j, e, v, h2, _, _, h4, h5⟩
  · simp [Instr.lookup, run_underlying ht, getObj, Sem.run, h1', KT.check, h2, hz, h3]
  · simp [Instr.lookup, run_underlying ht, getObj, Sem.run, h1', KT.check, h2, h4, h5]

/-! ### Writing -/
theorem mem_modify {es : Array MapEntry} {j : Nat} {f : MapEntry → MapEntry} {e0 : MapEntry} (h0 : es.toList[j]? = some e0) (x : MapEntry) :
    x ∈ (es.modify j f).toList ↔ x = f e0 ∨ ∃ i, i ≠ j ∧ es.toList[i]? = some x := by
  rw [List.mem_iff_getElem?]
  constructor
  · rintro ⟨i, hi⟩
    rw [Array.getElem?_toList, Array.getElem?_modify] at hi
    split at hi
    · rename_i hji
      subst hji
      rw [← Array.getElem?_toList, h0] at hi
      left; simpa using hi.symm
    · rename_i hji
      right; exact ⟨i, fun e => hji e.symm, by rw [Array.getElem?_toList]; exact hi⟩
  · rintro (rfl | ⟨i, hi, hx⟩)
    · refine ⟨j, ?_⟩
      rw [Array.getElem?_toList, Array.getElem?_modify, if_pos rfl, ← Array.getElem?_toList, h0]; rfl
    · refine ⟨i, ?_⟩
      rw [Array.getElem?_toList, Array.getElem?_modify, if_neg (fun e => hi e.symm), ← Array.getElem?_toList]; exact hx
theorem other_key {es : List MapEntry} (hd : es.Pairwise (fun a b => a.key ≠ b.key)) {i j : Nat} {a b : MapEntry} (hi : es[i]? = some a) (hj : es[j]? = some b) (hij : i ≠ j) : a.key ≠ b.key := by
  rw [List.pairwise_iff_getElem] at hd
  obtain ⟨hi1, rfl⟩ := List.getElem?_eq_some_iff.1 hi
  obtain ⟨hj1, rfl⟩ := List.getElem?_eq_some_iff.1 hj
  rcases Nat.lt_or_gt_of_ne hij with h | h
  · exact hd i j hi1 hj1 h
  · exact (hd j i hj1 hi1 h).symm
theorem toList_modify (es : Array MapEntry) (j : Nat) (f : MapEntry → MapEntry) : (es.modify j f).toList = es.toList.modify j f := by
  apply List.ext_getElem?
  intro i
  rw [Array.getElem?_toList, Array.getElem?_modify, List.getElem?_modify, Array.getElem?_toList]
  split <;> simp_all
theorem pairwise_modify {R : MapEntry → MapEntry → Prop} {es : Array MapEntry} (j : Nat) (f : MapEntry → MapEntry) (hf : ∀ x y, R x y → R (f x) y) (hg : ∀ x y, R x y → R x (f y)) (hd : es.toList.Pairwise R) : (es.modify j f).toList.Pairwise R := by
  rw [List.pairwise_iff_getElem] at hd ⊢
  intro i k hi hk hik
  simp only [toList_modify, List.getElem_modify]
  rw [toList_modify, List.length_modify] at hi hk
  have h0 := hd i k hi hk hik
  split <;> split
  · exact hg _ _ (hf _ _ h0)
  · exact hf _ _ h0
  · exact hg _ _ h0
  · exact h0

/-- F, one key put -/
def putF [DecidableEq K] (F : K → Option V) (k : K) (v : V) : K → Option V := fun x => if x = k then some v else F x
/-- F, one key struck -/
def delF [DecidableEq K] (F : K → Option V) (k : K) : K → Option V := fun x => if x = k then none else F x

/-- 'm[k] = v' -/
theorem IsMap.update [DecidableEq K] {w : World} {b : Nat} {F : K → Option V} (h : IsMap w b ek ev F) (KT : KeyT P kt ek) (ht : P.underlying t = some (.map kt et)) (k : K) (v : V) :
    ∃ w', (Instr.mapUpdate t (.map (some b)) (ek k) (ev v)).run P w = .ok () w' ∧ IsMap w' b ek ev (putF F k v) ∧ Fr (fun i => i = b) w w' ∧ w'.heap.size = w.heap.size ∧ mapSize w' b ≤ mapSize w b + 1 := by
  obtain ⟨es, clock, h1, G⟩ := h
  rcases good_find KT G w k with ⟨h2, h3, h4⟩ | ⟨j, e0, v0, h2, h3, h4, h5, h6⟩
  · refine ⟨setB w b (.map (es.push { key := ek k, val := ev v, born := clock }) (clock + 1)), ?_, ⟨_, _, setB_same h1, ?_⟩, Fr.setB _ _ _, setB_size _ _ _, by simp [mapSize, setB_same h1, h1]⟩
    · simp [Instr.mapUpdate, run_underlying ht, getObj, setObj, Sem.run, h1, KT.check, h2, setB]
    · refine ⟨?_, ?_, ?_, ?_, ?_⟩
      · intro e he
        simp only [Array.toList_push, List.mem_append, List.mem_singleton] at he
        rcases he with he | rfl
        · obtain ⟨k', v', a1, a2, a3⟩ := G.key e he
          refine ⟨k', v', a1, a2, ?_⟩
          unfold putF; rw [if_neg]; · exact a3
          intro e'; subst e'; rw [h3] at a3; cases a3
        · exact ⟨k, v, rfl, rfl, by simp [putF]⟩
      · intro k' v' hF
        unfold putF at hF
        split at hF
        · rename_i hk; cases hF; subst hk
          exact ⟨_, by simp only [Array.toList_push, List.mem_append, List.mem_singleton]; right; rfl, rfl, rfl⟩
        · obtain ⟨e, he, a1, a2⟩ := G.all k' v' hF
          exact ⟨e, by simp [he], a1, a2⟩
      · simp only [Array.toList_push, List.pairwise_append, List.pairwise_singleton, List.mem_singleton, true_and]
        refine ⟨G.dist, ?_⟩
        rintro a ha _ rfl
        exact h4 a ha
      · intro e he
        simp only [Array.toList_push, List.mem_append, List.mem_singleton] at he
        rcases he with he | rfl
        · exact Nat.lt_succ_of_lt (G.old e he)
        · exact Nat.lt_succ_self _
      · simp only [Array.toList_push, List.pairwise_append, List.pairwise_singleton, List.mem_singleton, true_and]
        refine ⟨G.born, ?_⟩
        rintro a ha _ rfl
        exact Nat.ne_of_lt (G.old a ha)
  · have hkey : ((es[j]?).map (·.key)).getD (ek k) = ek k := by rw [← Array.getElem?_toList, h3]; exact h4
    refine ⟨setB w b (.map (es.modify j fun e => { e with key := ek k, val := ev v }) clock), ?_, ⟨_, _, setB_same h1, ?_⟩, Fr.setB _ _ _, setB_size _ _ _, by simp [mapSize, setB_same h1, h1]⟩
    · simp [Instr.mapUpdate, run_underlying ht, getObj, setObj, Sem.run, h1, KT.check, h2, setB, hkey, KT.stays]
    · have mm := mem_modify (f := fun e : MapEntry => { e with key := ek k, val := ev v }) h3
      refine ⟨?_, ?_, ?_, ?_, ?_⟩
      · intro e he
        rcases (mm e).1 he with rfl | ⟨i, hi, hx⟩
        · exact ⟨k, v, rfl, rfl, by simp [putF]⟩
        · obtain ⟨k', v', a1, a2, a3⟩ := G.key e (List.mem_of_getElem? hx)
          refine ⟨k', v', a1, a2, ?_⟩
          unfold putF; rw [if_neg]; · exact a3
          intro e'; subst e'
          exact other_key G.dist hx h3 hi (a1.trans h4.symm)
      · intro k' v' hF
        unfold putF at hF
        split at hF
        · rename_i hk; cases hF; subst hk
          exact ⟨_, (mm _).2 (.inl rfl), rfl, rfl⟩
        · rename_i hk
          obtain ⟨e, he, a1, a2⟩ := G.all k' v' hF
          obtain ⟨i, hi⟩ := List.mem_iff_getElem?.1 he
          refine ⟨e, (mm _).2 (.inr ⟨i, ?_, hi⟩), a1, a2⟩
          intro e'; subst e'
          rw [h3] at hi; cases hi
          exact hk (KT.inj (a1.symm.trans h4))
      · rw [List.pairwise_iff_getElem]
        intro i i' hi hi' hii
        have hl : (es.modify j fun e => { e with key := ek k, val := ev v }).toList.length = es.toList.length := by simp
        rw [hl] at hi hi'
        have h0 := (List.pairwise_iff_getElem.1 G.dist) i i' hi hi' hii
        have ek0 : ∀ i (hi : i < es.toList.length), (if j = i then ek k else es.toList[i].key) = es.toList[i].key := by
          intro i hi
          split
          · rename_i e; subst e
            have := List.getElem?_eq_some_iff.1 h3
            rw [this.2, h4]
          · rfl
        simp only [toList_modify, List.getElem_modify]
        have g : ∀ i (hi : i < es.toList.length), (if j = i then { es.toList[i] with key := ek k, val := ev v } else es.toList[i] : MapEntry).key = es.toList[i].key := by
          intro i hi
          rw [← ek0 i hi]; split <;> rfl
        rw [g i hi, g i' hi']
        exact h0
      · intro e he
        rcases (mm e).1 he with rfl | ⟨i, hi, hx⟩
        · exact G.old e0 (List.mem_of_getElem? h3)
        · exact G.old e (List.mem_of_getElem? hx)
      · exact pairwise_modify _ _ (fun _ _ h => h) (fun _ _ h => h) G.born

/-- what 'delete' does to the entries -/
theorem good_del [DecidableEq K] {es : Array MapEntry} {clock : Nat} {F : K → Option V} (G : Good ek ev es clock F) (inj : ∀ {a b : K}, ek a = ek b → a = b) {j : Nat} {e0 : MapEntry} {k : K} (h3 : es.toList[j]? = some e0) (h4 : e0.key = ek k) :
    Good ek ev (es.eraseIdxIfInBounds j) clock (delF F k) ∧ (es.eraseIdxIfInBounds j).toList = es.toList.eraseIdx j := by
  have hj : j < es.size := by have := (List.getElem?_eq_some_iff.1 h3).1; simpa using this
  have hl : (es.eraseIdxIfInBounds j).toList = es.toList.eraseIdx j := by
    unfold Array.eraseIdxIfInBounds; rw [dif_pos hj]; simp
  have sub : (es.eraseIdxIfInBounds j).toList.Sublist es.toList := by rw [hl]; exact List.eraseIdx_sublist _ _
  refine ⟨⟨?_, ?_, G.dist.sublist sub, fun e he => G.old e (sub.subset he), G.born.sublist sub⟩, hl⟩
  · intro e he
    obtain ⟨k', v', a1, a2, a3⟩ := G.key e (sub.subset he)
    refine ⟨k', v', a1, a2, ?_⟩
    unfold delF; rw [if_neg]; · exact a3
    intro e'; subst e'
    rw [hl] at he
    obtain ⟨i, hi1, hi2⟩ := List.mem_eraseIdx_iff_getElem?.1 he
    exact other_key G.dist hi2 h3 hi1 (a1.trans h4.symm)
  · intro k' v' hF
    unfold delF at hF
    split at hF
    · cases hF
    · rename_i hk
      obtain ⟨e, he, a1, a2⟩ := G.all k' v' hF
      obtain ⟨i, hi⟩ := List.mem_iff_getElem?.1 he
      refine ⟨e, ?_, a1, a2⟩
      rw [hl]
      refine List.mem_eraseIdx_iff_getElem?.2 ⟨i, ?_, hi⟩
      intro e'; subst e'
      rw [h3] at hi; cases hi
      exact hk (inj (a1.symm.trans h4))
theorem good_del_none [DecidableEq K] {es : Array MapEntry} {clock : Nat} {F : K → Option V} (G : Good ek ev es clock F) {k : K} (h : F k = none) : Good ek ev es clock (delF F k) := by
  have e : delF F k = F := by
    funext x; unfold delF; split
    · rename_i hx; rw [hx, h]
    · rfl
  rw [e]; exact G
/-- 'delete(m, k)' while m is ranged over (or not) -/
theorem IsIter.delete [DecidableEq K] {w : World} {b r : Nat} {F : K → Option V} {S : K → Prop} {n : Nat} (h : IsIter w b r ek ev F S n) (KT : KeyT P kt ek) (ht : P.underlying t = some (.map kt et)) (k : K) (ty : TypeId) :
    ∃ w' n', (Builtin.delete_ #[t, kt] ty #[.map (some b), ek k]).run P w = .ok (.tuple #[]) w' ∧ IsIter w' b r ek ev (delF F k) S n' ∧ n' ≤ n ∧ Fr (fun i => i = b) w w' ∧ w'.heap.size = w.heap.size ∧ mapSize w' b ≤ mapSize w b := by
  have hne := h.ne
  obtain ⟨es, clock, seen, h1, G, hr, hs, hn⟩ := h
  rcases good_find KT G w k with ⟨h2, h3, h4⟩ | ⟨j, e0, v0, h2, h3, h4, h5, h6⟩
  · refine ⟨setB w b (.map es clock), n, ?_, ⟨_, _, _, setB_same h1, good_del_none G h3, (setB_other hne.symm).trans hr, hs, hn⟩, Nat.le_refl _, Fr.setB _ _ _, setB_size _ _ _, by simp [mapSize, setB_same h1, h1]⟩
    simp [Builtin.delete_, run_underlying ht, getObj, setObj, Sem.run, h1, KT.check, h2, setB]
  · obtain ⟨G', hl⟩ := good_del G KT.inj h3 h4
    refine ⟨setB w b (.map (es.eraseIdxIfInBounds j) clock), _, ?_, ⟨_, _, _, setB_same h1, G', (setB_other hne.symm).trans hr, ?_, rfl⟩, ?_, Fr.setB _ _ _, setB_size _ _ _, ?_⟩
    · simp [Builtin.delete_, run_underlying ht, getObj, setObj, Sem.run, h1, KT.check, h2, setB]
    · intro e he
      rw [hl] at he
      exact hs e (List.mem_of_mem_eraseIdx he)
    · rw [← hn, hl]
      exact ((List.eraseIdx_sublist _ _).filter _).length_le
    · have e1 : (es.eraseIdxIfInBounds j).size ≤ es.size := by
        rw [← Array.length_toList, ← Array.length_toList, hl]
        exact (List.eraseIdx_sublist _ _).length_le
      simpa [mapSize, setB_same h1, h1] using e1

/-- 'range m' -/
theorem IsMap.range {w : World} {b : Nat} {F : K → Option V} (h : IsMap w b ek ev F) (ht : P.underlying t = some (.map kt et)) :
    ∃ w' n, (Instr.range t (.map (some b))).run P w = .ok (.pointer (some ⟨w.heap.size, 0, none⟩)) w' ∧ IsIter w' b w.heap.size ek ev F (fun _ => False) n ∧ Qt w w' ∧ w'.heap.size = w.heap.size + 1 := by
  obtain ⟨es, clock, h1, G⟩ := h
  have hlt : b < w.heap.size := (Array.getElem?_eq_some_iff.1 h1).1
  refine ⟨w.alloc (.mapIter (some b) clock #[] clock), _, ?_, ⟨es, clock, #[], (Below.heap_alloc _ _ _ hlt).trans h1, G, heap_alloc_new w _, ?_, rfl⟩, (Fr.refl _ _).alloc _, by simp⟩
  · simp [Instr.range, run_underlying ht, getObj, Sem.run, h1]
  · intro e _ k _; simp

/-- the step -/
theorem IsIter.next {w : World} {b r : Nat} {F : K → Option V} {S : K → Prop} {n : Nat} (h : IsIter w b r ek ev F S n) (inj : ∀ {a b : K}, ek a = ek b → a = b) (ty : TypeId) :
    (n = 0 ∧ (∀ k, (F k).isSome = true → S k) ∧ (Instr.next (.pointer (some ⟨r, 0, none⟩)) false ty).run P w = .ok (.tuple #[.bool false]) w) ∨
    ∃ k v w' n', F k = some v ∧ ¬ S k ∧ (Instr.next (.pointer (some ⟨r, 0, none⟩)) false ty).run P w = .ok (.tuple #[.bool true, ek k, ev v]) w' ∧ IsIter w' b r ek ev F (fun x => S x ∨ x = k) n' ∧ n' < n ∧
      Fr (fun i => i = r) w w' ∧ w'.heap.size = w.heap.size ∧ (Instr.entry (.pointer (some ⟨r, 0, none⟩))).run P w' = .ok (.tuple #[ek k, ev v]) w' := by
  have hne := h.ne
  obtain ⟨es, clock, seen, h1, G, hr, hs, hn⟩ := h
  have hnot : (!seen.isEmpty && !es.isEmpty && es.all (fun x => decide (x.born ≥ clock))) = false := by
    cases hl : es.toList with
    | nil =>
      have : es = #[] := by cases es; simpa using hl
      simp [this]
    | cons e l =>
      have : es.all (fun x => decide (x.born ≥ clock)) = false := by
        rw [Bool.eq_false_iff]
        intro hall
        rw [Array.all_eq_true_iff_forall_mem] at hall
        have h1 := hall e (Array.mem_toList_iff.1 (by rw [hl]; simp))
        have h2 := G.old e (by rw [hl]; simp)
        simp at h1; omega
      rw [this]; simp
  have hold : (es.filter fun e => !seen.contains e.born).filter (fun e => decide (e.born < clock)) = es.filter fun e => !seen.contains e.born := by
    rw [Array.filter_eq_self]
    intro e he
    have := G.old e (Array.mem_toList_iff.2 (Array.mem_filter.1 he).1)
    simpa using this
  have hnew : (es.filter fun e => !seen.contains e.born).filter (fun e => decide (e.born ≥ clock)) = #[] := by
    rw [Array.filter_eq_empty_iff]
    intro e he
    have := G.old e (Array.mem_toList_iff.2 (Array.mem_filter.1 he).1)
    simpa using this
  generalize hL : (es.filter fun e => !seen.contains e.born) = L at hold hnew
  have hLl : L.toList = es.toList.filter fun e => !seen.contains e.born := by rw [← hL]; simp
  by_cases hemp : L.isEmpty = true
  · left
    have hLe : L = #[] := by simpa using hemp
    have hnil : (es.toList.filter fun e => !seen.contains e.born) = [] := by rw [← hLl, hLe]
    refine ⟨by rw [← hn, hnil]; rfl, ?_, ?_⟩
    · intro k hk
      obtain ⟨v, hv⟩ := Option.isSome_iff_exists.1 hk
      obtain ⟨e, he, a1, a2⟩ := G.all k v hv
      refine (hs e he k a1).1 ?_
      rw [List.filter_eq_nil_iff] at hnil
      simpa using hnil e he
    · have hL' : (es.filter fun e => !seen.contains e.born) = #[] := hL.trans hLe
      simp only [Instr.next, Sem.run_bind, getObj, Sem.run, hr, h1, hnot, Result.andThen_ok, hL', Bool.false_eq_true, if_false]
      simp [Question.forced]
  · right
    have hsz : 0 < L.size := by
      rcases Nat.eq_zero_or_pos L.size with h | h
      · exact absurd (by simpa using h) hemp
      · exact h
    have hcand : (if L.isEmpty = true then #[none] else #[]) ++ Array.map some (L ++ (#[] : Array MapEntry)) = L.map some := by
      rw [if_neg hemp]; simp
    have pick : ∃ (i : Nat) (dn : Nat), i < L.size ∧ (choose (.mapNext (L.map some).size)).run P w = .ok i (w.drewN dn) := by
      rw [run_choose]
      by_cases hf : (Question.mapNext (L.map some).size).forced = true
      · rw [if_pos hf]; exact ⟨0, 0, hsz, rfl⟩
      · rw [if_neg hf]
        refine ⟨_, 1, ?_, rfl⟩
        simp only [Question.cut, Array.size_map]
        exact Nat.mod_lt _ hsz
    obtain ⟨i, dn, hi, hpick⟩ := pick
    have hmem : L[i] ∈ L.toList := by simp
    have hcontent := hmem
    rw [hLl, List.mem_filter] at hcontent
    obtain ⟨hin, hun⟩ := hcontent
    obtain ⟨k, v, a1, a2, a3⟩ := G.key _ hin
    have hnS : ¬ S k := by
      intro hS
      have := (hs _ hin k a1).2 hS
      rw [this] at hun; simp at hun
    refine ⟨k, v, setB (w.drewN dn) r (.mapIter (some b) clock (seen.push L[i].born) clock), _, a3, hnS, ?_, ⟨es, clock, seen.push L[i].born, (setB_other hne).trans h1, G, setB_same hr, ?_, rfl⟩, ?_, ?_, by rw [setB_size]; rfl, ?_⟩
    · have h1' : (w.drewN dn).heap[r]? = some (.mapIter (some b) clock seen clock) := hr
      simp only [Instr.next, Sem.run_bind, getObj, Sem.run, hr, h1, hnot, Result.andThen_ok, hL, hold, hnew, Bool.false_eq_true, if_false, Sem.run_pure, hcand, hpick]
      simp [hi, setObj, Sem.run, hr, setB, a1, a2]
    · intro e he k' hk'
      have hb0 := hs e he k' hk'
      constructor
      · intro hc
        rw [Array.contains_push] at hc
        simp only [Bool.or_eq_true, beq_iff_eq] at hc
        rcases hc with hc | hc
        · left; exact hb0.1 hc
        · right
          obtain ⟨i1, hi1⟩ := List.mem_iff_getElem?.1 he
          obtain ⟨i2, hi2⟩ := List.mem_iff_getElem?.1 hin
          have : i1 = i2 := by
            rcases Nat.lt_trichotomy i1 i2 with h | h | h
            · have := (List.pairwise_iff_getElem.1 G.born) i1 i2 (List.getElem?_eq_some_iff.1 hi1).1 (List.getElem?_eq_some_iff.1 hi2).1 h
              rw [(List.getElem?_eq_some_iff.1 hi1).2, (List.getElem?_eq_some_iff.1 hi2).2] at this
              exact absurd hc this
            · exact h
            · have := (List.pairwise_iff_getElem.1 G.born) i2 i1 (List.getElem?_eq_some_iff.1 hi2).1 (List.getElem?_eq_some_iff.1 hi1).1 h
              rw [(List.getElem?_eq_some_iff.1 hi1).2, (List.getElem?_eq_some_iff.1 hi2).2] at this
              exact absurd hc.symm this
          subst this
          rw [hi1] at hi2; cases hi2
          exact inj (hk'.symm.trans a1)
      · intro hS
        rw [Array.contains_push]
        simp only [Bool.or_eq_true, beq_iff_eq]
        rcases hS with hS | hS
        · left; exact hb0.2 hS
        · right
          subst hS
          obtain ⟨i1, hi1⟩ := List.mem_iff_getElem?.1 he
          obtain ⟨i2, hi2⟩ := List.mem_iff_getElem?.1 hin
          have : i1 = i2 := Classical.byContradiction fun hne => other_key G.dist hi1 hi2 hne (hk'.trans a1.symm)
          subst this
          rw [hi1] at hi2; cases hi2; rfl
    · rw [← hn]
      have hsub : (es.toList.filter fun e => !(seen.push L[i].born).contains e.born) = (es.toList.filter fun e => !seen.contains e.born).filter (fun e => !(e.born == L[i].born)) := by
        rw [List.filter_filter]
        apply List.filter_congr
        intro e _
        rw [Array.contains_push]
        cases seen.contains e.born <;> cases (e.born == L[i].born) <;> rfl
      rw [hsub]
      apply List.length_filter_lt_length_iff_exists.2
      exact ⟨L[i], by rw [← hLl]; exact hmem, by simp⟩
    · exact ((Fr.refl _ w).drewN dn).trans' (Fr.setB _ _ _)
    · have hr' := setB_same (o := .mapIter (some b) clock (seen.push L[i].born) clock) (w := w.drewN dn) hr
      have hb' := ((setB_other (o := .mapIter (some b) clock (seen.push L[i].born) clock) (w := w.drewN dn) hne).trans h1)
      have hfind : es.find? (fun e => e.born == L[i].born) = some L[i] := by
        rw [← Array.find?_toList]
        obtain ⟨i2, hi2⟩ := List.mem_iff_getElem?.1 hin
        rw [List.find?_eq_some_iff_getElem]
        refine ⟨by simp, i2, (List.getElem?_eq_some_iff.1 hi2).1, (List.getElem?_eq_some_iff.1 hi2).2, ?_⟩
        intro j hj
        have := (List.pairwise_iff_getElem.1 G.born) j i2 (by have := (List.getElem?_eq_some_iff.1 hi2).1; omega) (List.getElem?_eq_some_iff.1 hi2).1 hj
        rw [(List.getElem?_eq_some_iff.1 hi2).2] at this
        simpa using this
      simp [Instr.entry, getObj, Sem.run, hr', hb', hfind, a1, a2]
end

/-! ### At the operations -/
section
variable {P : Program} {kt et t : TypeId} {K V : Type} {ek : K → Value} {ev : V → Value} (w : World) {ops : Array Oper} {rest : List Oper} {o : Oper} {a : Act} {Q : Exit → Act → World → Prop}
theorem wpList_upd [DecidableEq K] (hg : o.guard = none) (m x v : Operand) (t : TypeId) (hop : o.op = Op.mapUpdate t m x v)
    (KT : KeyT P kt ek) (ht : P.underlying t = some (.map kt et)) (b : Nat) (F : K → Option V) (hm : a.eval m = .map (some b)) (h : IsMap w b ek ev F) (k : K) (c : V) (hx : a.eval x = ek k) (hv : a.eval v = ev c)
    (hK : ∀ w', IsMap w' b ek ev (putF F k c) → Fr (fun i => i = b) w w' → w'.heap.size = w.heap.size → mapSize w' b ≤ mapSize w b + 1 → wpList P ops Q rest (a.put o.dst undef) w') : wpList P ops Q (o :: rest) a w := by
  refine wpList_plain hg fun K' hK' => ?_
  obtain ⟨w', hrun, r1, r2, r3, r4⟩ := h.update KT ht k c
  unfold Oper.wp
  simp [execOp, hop, hm, hx, hv, hrun, Result.andThen]
  exact hK' _ _ (hK w' r1 r2 r3 r4)
theorem wpList_rng (hg : o.guard = none) (m : Operand) (t : TypeId) (hop : o.op = Op.range t m) (ht : P.underlying t = some (.map kt et)) (b : Nat) (F : K → Option V) (hm : a.eval m = .map (some b)) (h : IsMap w b ek ev F)
    (hK : ∀ w' n, IsIter w' b w.heap.size ek ev F (fun _ => False) n → Qt w w' → w'.heap.size = w.heap.size + 1 → wpList P ops Q rest (a.put o.dst (.pointer (some ⟨w.heap.size, 0, none⟩))) w') : wpList P ops Q (o :: rest) a w := by
  refine wpList_plain hg fun K' hK' => ?_
  obtain ⟨w', n, hrun, r1, r2, r3⟩ := h.range (P := P) ht
  unfold Oper.wp
  simp [execOp, hop, hm, hrun, Result.andThen]
  exact hK' _ _ (hK w' n r1 r2 r3)
theorem wpList_nxt (hg : o.guard = none) (it : Operand) (hop : o.op = Op.next it false) (KT : KeyT P kt ek) (b r n : Nat) (F : K → Option V) (S : K → Prop) (hit : a.eval it = .pointer (some ⟨r, 0, none⟩)) (h : IsIter w b r ek ev F S n)
    (hDone : n = 0 → (∀ k, (F k).isSome = true → S k) → wpList P ops Q rest (a.put o.dst (.tuple #[.bool false])) w)
    (hMore : ∀ k v w' n', F k = some v → ¬ S k → IsIter w' b r ek ev F (fun x => S x ∨ x = k) n' → n' < n → Fr (fun i => i = r) w w' → w'.heap.size = w.heap.size →
      (Instr.entry (.pointer (some ⟨r, 0, none⟩))).run P w' = .ok (.tuple #[ek k, ev v]) w' → wpList P ops Q rest (a.put o.dst (.tuple #[.bool true, ek k, ev v])) w') : wpList P ops Q (o :: rest) a w := by
  refine wpList_plain hg fun K' hK' => ?_
  unfold Oper.wp
  rcases h.next (P := P) KT.inj o.type with ⟨h0, hl, hrun⟩ | ⟨k, v, w', n', h1, h2, hrun, h3, h4, h5, h6, h7⟩
  · simp [execOp, hop, hit, hrun, Result.andThen]
    exact hK' _ _ (hDone h0 hl)
  · simp [execOp, hop, hit, hrun, Result.andThen]
    exact hK' _ _ (hMore k v w' n' h1 h2 h3 h4 h5 h6 h7)
theorem wpList_dlt [DecidableEq K] (hg : o.guard = none) (m x : Operand) (t : TypeId) (hop : o.op = Op.call { callee := Callee.builtin Builtin.delete, args := #[m, x], argTypes := #[t, kt] })
    (KT : KeyT P kt ek) (ht : P.underlying t = some (.map kt et)) (b r n : Nat) (F : K → Option V) (S : K → Prop) (hm : a.eval m = .map (some b)) (h : IsIter w b r ek ev F S n) (k : K) (hx : a.eval x = ek k)
    (hK : ∀ w' n', IsIter w' b r ek ev (delF F k) S n' → n' ≤ n → Fr (fun i => i = b) w w' → w'.heap.size = w.heap.size → mapSize w' b ≤ mapSize w b → wpList P ops Q rest (a.put o.dst (.tuple #[])) w') : wpList P ops Q (o :: rest) a w := by
  refine wpList_plain hg fun K' hK' => ?_
  obtain ⟨w', n', hrun, r1, r2, r3, r4, r5⟩ := h.delete KT ht k o.type
  unfold Oper.wp
  simp [execOp, hop, resolve, invoke, builtin, hm, hx, hrun, Result.andThen]
  exact hK' _ _ (hK w' n' r1 r2 r3 r4 r5)
end
end Go.Proofs.Ytediappljpkblaa
