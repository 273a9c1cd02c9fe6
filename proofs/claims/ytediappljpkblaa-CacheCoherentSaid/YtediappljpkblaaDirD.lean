/- The directory of package cache: Holders. -/
import Derived.Test.YtediappljpkblaaDirC
import Derived.Sort.OwnSortedInts
namespace Go.Proofs.Ytediappljpkblaa
set_option linter.unusedSimpArgs false
set_option linter.unusedVariables false
open Go.RowKit

theorem grown_fr {S : Nat → Prop} {w w' : World} {row : Option Nat} (hg : w.grownBy w' row) (hr : ∀ k, row = some k → S k) : Fr S w w' := (Fr.refl S w).grown hg (fun k e => .inr (hr k e))
theorem sort_own (w : World) (base : Nat) (v : Value) (xs : List Int) (h : w.ownsRow base 3 1 v xs.length (xs.map eInt)) (hx : xs.length < 4611686018427387904) :
    Calls Try.prog 27 #[v] w fun e w' => e = .returned (.tuple #[]) ∧ w'.ownsRow base 3 1 v xs.length ((xs.mergeSort fun x y => decide (x ≤ y)).map eInt) ∧ Fr (fun k => v.ownBlock = some k) w w' := by
  rcases h.2 with ⟨rfl, h0⟩ | ⟨g, cap, cur, rfl, hb, hg, hn, hm, hs, ht⟩
  · have : xs = [] := List.eq_nil_of_length_eq_zero h0
    subst this
    refine (Try.slices_Sort_int_none none 0 w).mono ?_
    rintro e w' ⟨rfl, rfl⟩
    exact ⟨rfl, by simpa using h, Fr.refl _ _⟩
  · rw [Nat.mul_one] at ht hs
    refine (Try.slices_Sort_int g 0 cap xs w (holds_of_blockI hg ht) (Array.getElem?_eq_some_iff.1 hg).1 hx).mono ?_
    rintro e w' ⟨rfl, n, os, rfl⟩
    exact ⟨rfl, ownsRow_sortedI (List.length_mergeSort _) hb hg hn hm (by omega), grown_fr (grownBy_sortedI _) (fun k hk => by simpa [Value.ownBlock] using hk)⟩

/-- l is the list of the systems that hold a page -/
def Dir.holds (D : Dir) (i p : Int) (l : List Int) : Prop := l.Nodup ∧ ∀ s, s ∈ l ↔ (D.reg (s, i, p)).isSome = true

theorem info3 : (Try.prog.info? 3).map (fun i => (i.zero, i.size, i.bytes)) = some (some (.int .i64 0), 1, 8) := by kernel_rfl

set_option maxHeartbeats 1000000 in
set_option maxRecDepth 100000 in
theorem holders_any (w : World) (B : DirB) (D : Dir) (i p : Int) (h : DirAt w B D) (hcap : D.cap ≤ 1099511627776) :
    Calls Try.prog 16 #[.pointer (some ⟨B.b, 0, none⟩), .int .i64 i, .int .i64 p] w fun e w' => ∃ v l, e = .returned v ∧ D.holds i p l ∧ l.Pairwise (· ≤ ·) ∧
      w'.ownsRow w.heap.size 3 1 v l.length (l.map eInt) ∧ l.length ≤ D.cap ∧ Qt w w' := by
  obtain ⟨i0, hi, hz0, hz1, hz2⟩ := info_parts info3
  obtain ⟨w0, n0, hrun, it0, q0, z0⟩ := h.reg.range (P := Try.prog) Try.underlying57
  have c3 := h.c3
  have hsz := it0.le_size
  rw [h.reg.size_fr q0 (fun x => x)] at hsz
  have hsm := h.small
  have hglt := h.reg.lt
  have R0 : Hid (w0.heap.size = w.heap.size + 1) := z0
  clear z0
  go_enter Try.func16, Try.ntmps16
  go_wp2
  go_loopw [7] (fun v wr => ∃ (S : Int × Int × Int → Prop) (n : Nat) (l : List Int), IsIter wr B.g w.heap.size eReg eBool D.reg S n ∧ wr.ownsRow (w.heap.size + 1) 3 1 v l.length (l.map eInt) ∧ Qt w wr ∧ l.Nodup ∧ (∀ s, s ∈ l ↔ S (s, i, p) ∧ (D.reg (s, i, p)).isSome = true) ∧ l.length + n ≤ D.cap)
    (fun _ wr => iterLeft wr B.g w.heap.size)
  case atStart => exact ⟨_, n0, [], it0, World.ownsRow_nil _ _ _ _, q0, List.nodup_nil, by simp, by simp; omega⟩
  case round =>
    obtain ⟨S, n, l, it, own, qq, nd, mem, cnt⟩ := hrel
    have HC := Lib.hid cnt
    have HM := Lib.hid mem
    have HN := Lib.hid nd
    clear cnt mem nd
    rcases it.next (P := Try.prog) key63.inj 0 with ⟨hn, hall, hrun2⟩ | ⟨⟨k1, k2, k3⟩, v, w1, n', hF, hnS, hrun2, it1, hlt, f1, z1, hen⟩
    · have HA := Lib.hid hall
      clear hall hn hrun
      go_wp2_with (go_at_call 27; refine (sort_own _ _ _ l own (by have := HC.out; omega)).mono ?_; rintro e w2 ⟨rfl, own2, f2⟩)
      have q2 : Qt w w2 := qq.trans f2 (fun _ x => x) (fun k hk hh => by have := own.lt k hh; omega)
      go_ret
      refine ⟨u7, l.mergeSort fun x y => decide (x ≤ y), rfl, ?_, ?_, ?_, ?_, q2⟩
      · refine ⟨(List.mergeSort_perm l _).nodup_iff.2 HN.out, fun s => ?_⟩
        rw [(List.mergeSort_perm l _).mem_iff, HM.out s]
        exact ⟨fun x => x.2, fun x => ⟨HA.out _ x, x⟩⟩
      · have := List.pairwise_mergeSort (le := fun x y : Int => decide (x ≤ y)) (fun a b c h1 h2 => by simp at *; omega) (fun a b => by simp; omega) l
        exact this.imp (fun h => by simpa using h)
      · rw [List.length_mergeSort]; exact own_base own2 (by omega)
      · rw [List.length_mergeSort]; have := HC.out; omega
    · have HL := Lib.hid hlt
      have HF := Lib.hid hF
      have HS := Lib.hid hnS
      clear hlt hF hnS hrun
      simp only [eReg, eBool] at hrun2 hen
      have own1 := own_fr own f1 (fun k hk e => by have := own.lt k hk; omega)
      have q1 : Qt w w1 := qq.trans f1 (fun _ x => x) (fun k hk e => by omega)
      have Z1 := Lib.hid z1
      clear z1
      have stay : ∀ w2 : World, Qt w1 w2 → ¬ (k2 = i ∧ k3 = p) → (∃ (S : Int × Int × Int → Prop) (n : Nat) (l : List Int), IsIter w2 B.g w.heap.size eReg eBool D.reg S n ∧ w2.ownsRow (w.heap.size + 1) 3 1 u7 l.length (l.map eInt) ∧ Qt w w2 ∧ l.Nodup ∧ (∀ s, s ∈ l ↔ S (s, i, p) ∧ (D.reg (s, i, p)).isSome = true) ∧ l.length + n ≤ D.cap) ∧ iterLeft w2 B.g w.heap.size < iterLeft wr B.g w.heap.size := by
        intro w2 q2 hne
        have it2 := it1.fr q2 (fun x => x) (fun x => x)
        refine ⟨⟨_, n', l, it2, own_fr own1 q2 (fun _ _ x => x), q1.trans' q2, HN.out, fun s => ?_, by have := HC.out; have := HL.out; omega⟩, by rw [it2.left_eq, it.left_eq]; exact HL.out⟩
        rw [HM.out s]
        constructor
        · exact fun x => ⟨.inl x.1, x.2⟩
        · rintro ⟨x | x, y⟩
          · exact ⟨x, y⟩
          · simp only [Prod.mk.injEq] at x
            exact absurd ⟨x.2.1.symm, x.2.2.symm⟩ hne
      have HT := Lib.hid stay
      clear stay
      by_cases h2 : k2 = i
      · by_cases h3 : k3 = p
        · subst h2 h3
          clear HT
          go_wp2_with (at_builtin; refine wpList_append_own _ rfl _ _ 29 rfl (w.heap.size + 1) 3 i0 (.int .i64 0) 1 8 Try.underlying29 hi hz0 hz1 hz2 rfl (by decide) _ _ _ rfl ((own1.alloc _).alloc _) ⟨w1.heap.size + 1, 0, none⟩ 1 1 [.int .i64 k1] rfl rfl ?c1 ?c2 ?c3 ?c4 ?c5 ?_)
          case c1 => intro j u hj; cases j <;> simp at hj; subst hj; exact cell_at _ _ (by simp) rfl
          case c2 => simp [Value.oneCell']
          case c3 => unfold maxLen; have := HC.out; omega
          case c4 => have := HC.out; omega
          case c5 => simp; have := Z1.out; have := it.lt; omega
          intro v' w3 own3 g3 _
          have F3 : Fr (fun k => u7.ownBlock = some k) w1 w3 := (((Fr.refl (fun k => u7.ownBlock = some k) w1).alloc _).alloc _).grown g3 (fun k hk => .inr hk)
          have hge : ∀ k, u7.ownBlock = some k → w.heap.size + 1 ≤ k := fun k hk => (own1.lt k hk).1
          have it3 := it1.fr F3 (fun x => by have := hge _ x; omega) (fun x => by have := hge _ x; omega)
          have q3 : Qt w w3 := q1.trans F3 (fun _ x => x) (fun k hk x => by have := hge _ x; omega)
          have ME : Hid (k1 ∉ l) := Lib.hid fun x => HS.out ((HM.out k1).1 x).1
          have own4 : w3.ownsRow (w.heap.size + 1) 3 1 v' (l ++ [k1]).length ((l ++ [k1]).map eInt) := by
            rw [List.length_append, List.map_append]; exact own3
          have O4 := Lib.hid own4
          clear own3 own4
          go_wp2
          go_roundw
          case rel =>
            refine ⟨_, n', l ++ [k1], it3, O4.out, q3, ?_, fun s => ?_, ?_⟩
            · rw [List.nodup_append]
              exact ⟨HN.out, by simp, fun a ha b hb e => by simp at hb; subst hb; subst e; exact ME.out ha⟩
            · rw [List.mem_append, HM.out s, List.mem_singleton]
              constructor
              · rintro (⟨a, b⟩ | rfl)
                · exact ⟨.inl a, b⟩
                · exact ⟨.inr rfl, by rw [HF.out]; rfl⟩
              · rintro ⟨a | a, b⟩
                · exact .inl ⟨a, b⟩
                · simp only [Prod.mk.injEq] at a; exact .inr a.1
            · have := HC.out; have := HL.out; simp; omega
          case measure => rw [it3.left_eq, it.left_eq]; exact HL.out
        · have hb : (k3 == p) = false := by simpa using h3
          subst h2
          go_wp2
          exact HT.out _ ((Fr.refl _ _).alloc _) (fun x => h3 x.2)
      · have hb : (k2 == i) = false := by simpa using h2
        go_wp2
        exact HT.out _ ((Fr.refl _ _).alloc _) (fun x => h2 x.1)
end Go.Proofs.Ytediappljpkblaa
