/- dasdref47.Decimal by separation. -/
import Derived.Test.YtediappljpkblaaSepDel
import Derived.Test.YtediappljpkblaaRows
import Derived.Laws.BytesArg
import Derived.IntWalk
import Derived.Lib.Hide
namespace Go.Proofs.Ytediappljpkblaa
set_option linter.unusedSimpArgs false
set_option linter.unusedVariables false
open Go.RowKit
section
variable {P : Program} {ops rest : List Oper} {Q : Exit → Act → World → Prop} {o : Oper} {a : Act} {w0 w : World} {Γ : List HProp}
/-- 'string(b)' of a block's bytes -/
theorem wl_convB {src dst e : TypeId} {x : Operand} {b n c : Nat} {cs : Array Value} {T : TypeId} {fr : Nat × Nat} (xs : List Int) (hs : On w0 w Γ) (ho : o.op = .convert src dst x) (hw : Region.wanted o (yielded ops.toArray a.tmps) = true) (hx : a.eval x = .slice (some ⟨b, 0, none⟩) n c) (hb : At Γ b (.cells cs T fr))
    (hc : cs.toList = xs.map (Value.int .u8)) (hn : xs.length = n) (h1 : P.underlying src = some (.slice e)) (h2 : P.underlying e = some (.int .u8)) (h3 : P.underlying dst = some .string)
    (next : wpList P ops.toArray Q rest (a.put o.dst (.string (strOfNums xs))) w) : wpList P ops.toArray Q (o :: rest) a w := by
  refine wl_value hw ?_ next
  have hr := run_convert_bytes_arg (P := P) w src e h1 h2 b 0 n c xs hn (fun i hi => by
    rw [cell_of_heap (hs.heap hb), ← Array.getElem?_toList, hc]
    simp [List.getElem?_eq_getElem (show i < xs.length by omega), List.getD]) dst h3
  unfold execOp; rw [ho]; simp only [hx, Sem.run_bind, hr, Result.andThen_ok, Sem.run_pure]
end
def dig (n : Nat) : ByteArray := strOfNums [48 + (n % 10 : Nat)]
def dec (n : Nat) : ByteArray := if h : 10 ≤ n then dec (n / 10) ++ dig n else dig n
termination_by n
decreasing_by omega
theorem dec_size (n : Nat) : (dec n).size ≤ n + 1 := by
  induction n using Nat.strongRecOn with
  | _ n ih =>
  rw [dec]
  have h2 : (dig n).size = 1 := rfl
  split
  · have := ih (n / 10) (by omega)
    rw [ByteArray.size_append]
    omega
  · omega
set_option maxRecDepth 100000 in
theorem dec_tri (n : Nat) (hn : n ≤ 1000000) : Tri Try.prog 25 #[.int .i64 n] [] (fun r => pack [pur (r = .string (dec n))]) := by
  induction n using Nat.strongRecOn with
  | _ n ih =>
  refine Tri.mk fun w0 G hs => ?_
  try simp only [List.append_eq, List.cons_append, List.nil_append] at hs
  have IH := Lib.hid ih
  clear ih
  go_enter Try.func25, Try.ntmps25
  go_wp2_with (first | ((with_reducible refine wl_stop 3 ?_ ?_); exact rfl) | ((with_reducible refine wl_stop 4 ?_ ?_); exact rfl) | ((with_reducible refine wl_stop 5 ?_ ?_); exact rfl) | ((with_reducible refine wl_stop 6 ?_ ?_); exact rfl) | ((with_reducible refine wl_stop 8 ?_ ?_); exact rfl) | ((with_reducible refine wl_stop 9 ?_ ?_); exact rfl) | ((with_reducible refine wl_stop 10 ?_ ?_); exact rfl) | ((with_reducible refine wl_stop 11 ?_ ?_); exact rfl) | ((with_reducible refine wl_stop 12 ?_ ?_); exact rfl) | ((with_reducible refine wl_stop 13 ?_ ?_); exact rfl) | ((with_reducible refine wl_at 1 ?_ ?_); exact rfl; first | (refine wl_load1 hs rfl rfl (by conv => lhs; whnf) (by first | ((with_reducible repeat (first | exact At.head _ _ _ | exact At.headr _ _ _ | apply At.tail)); done) | fail "not there") (by first | (intro w; simp; done) | fail "not so") (by simp only [List.getElem?_toArray, List.getElem?_cons_succ, List.getElem?_cons_zero] <;> exact rfl) ?_) | (refine wl_loadN hs rfl rfl (by conv => lhs; whnf) (by first | ((with_reducible repeat (first | exact At.head _ _ _ | exact At.headr _ _ _ | apply At.tail)); done) | fail "not there") (by first | (intro w; simp; done) | fail "not so") (by intro w; refine Eq.trans (by simp <;> exact rfl) ?_; exact rfl) rfl (by simp only [List.toList_toArray, List.drop_succ_cons, List.drop_zero, List.take_succ_cons, List.take_zero]; exact rfl) ?_) | (refine wl_loadC hs rfl rfl (by conv => lhs; whnf) (by assumption) (by first | ((with_reducible repeat (first | exact Take.head _ _ | apply Take.tail)); done) | fail "not there") (by first | (intro w; simp; done) | fail "not so") ?_) | (refine wl_loadR hs rfl rfl (by conv => lhs; whnf) (by assumption) (by first | ((with_reducible repeat (first | exact Take.head _ _ | apply Take.tail)); done) | fail "not there") (by first | (intro w; simp; done) | fail "not so") (by intro w; refine Eq.trans (by simp <;> exact rfl) ?_; exact rfl) ?_)) | ((with_reducible refine wl_at 2 ?_ ?_); exact rfl; refine wl_store hs rfl rfl (by conv => lhs; whnf) (by conv => lhs; whnf) (by first | ((with_reducible repeat (first | exact Take.head _ _ | apply Take.tail)); done) | fail "not there") (by intro w; refine Eq.trans (by simp <;> exact rfl) ?_; exact rfl) rfl rfl (by simp only [setc, Value.cells, List.toList_toArray, List.set_cons_zero, List.set_cons_succ, Nat.reduceAdd] <;> exact rfl) ?_; clear hs; intro w hs))
  refine stopped ?_; refine wl_news hs rfl rfl (by intro w; refine Eq.trans (by go_simp; exact rfl) ?_; exact rfl) ?_; clear hs; intro b0 w hs
  by_cases h10 : 10 ≤ n
  · have hd : dec n = dec (n / 10) ++ dig n := by rw [dec, dif_pos h10]
    have hg : ((n : Int) ≥ 10) := by omega
    have HD := Lib.hid hd
    clear hd
    go_wp2_with (first | ((with_reducible refine wl_at 14 ?_ ?_); exact rfl; refine wl_convB (e := 5) (b := b0) (n := 1) (c := 1) [48 + (n % 10 : Nat)] hs rfl rfl (by conv => lhs; whnf) (by first | ((with_reducible repeat (first | exact At.head _ _ _ | exact At.headr _ _ _ | apply At.tail)); done) | fail "not there") (by simp) rfl Try.underlying87 Try.underlying5 Try.underlying9 ?_) | first | ((with_reducible refine wl_at 3 ?_ ?_); exact rfl; refine wl_newp hs rfl rfl (by intro w; refine Eq.trans (by go_simp; exact rfl) ?_; exact rfl) ?_; clear hs; intro b w hs) | ((with_reducible refine wl_at 4 ?_ ?_); exact rfl; refine wl_news hs rfl rfl (by intro w; refine Eq.trans (by go_simp; exact rfl) ?_; exact rfl) ?_; clear hs; intro b w hs) | ((with_reducible refine wl_at 5 ?_ ?_); exact rfl; refine wl_newm hs rfl rfl (by intro w; refine Eq.trans (by go_simp; exact rfl) ?_; exact rfl) ?_; clear hs; intro b w hs) | ((with_reducible refine wl_at 1 ?_ ?_); exact rfl; first | (refine wl_load1 hs rfl rfl (by conv => lhs; whnf) (by first | ((with_reducible repeat (first | exact At.head _ _ _ | exact At.headr _ _ _ | apply At.tail)); done) | fail "not there") (by first | (intro w; simp; done) | fail "not so") (by simp only [List.getElem?_toArray, List.getElem?_cons_succ, List.getElem?_cons_zero] <;> exact rfl) ?_) | (refine wl_loadN hs rfl rfl (by conv => lhs; whnf) (by first | ((with_reducible repeat (first | exact At.head _ _ _ | exact At.headr _ _ _ | apply At.tail)); done) | fail "not there") (by first | (intro w; simp; done) | fail "not so") (by intro w; refine Eq.trans (by simp <;> exact rfl) ?_; exact rfl) rfl (by simp only [List.toList_toArray, List.drop_succ_cons, List.drop_zero, List.take_succ_cons, List.take_zero]; exact rfl) ?_) | (refine wl_loadC hs rfl rfl (by conv => lhs; whnf) (by assumption) (by first | ((with_reducible repeat (first | exact Take.head _ _ | apply Take.tail)); done) | fail "not there") (by first | (intro w; simp; done) | fail "not so") ?_) | (refine wl_loadR hs rfl rfl (by conv => lhs; whnf) (by assumption) (by first | ((with_reducible repeat (first | exact Take.head _ _ | apply Take.tail)); done) | fail "not there") (by first | (intro w; simp; done) | fail "not so") (by intro w; refine Eq.trans (by simp <;> exact rfl) ?_; exact rfl) ?_)) | ((with_reducible refine wl_at 2 ?_ ?_); exact rfl; refine wl_store hs rfl rfl (by conv => lhs; whnf) (by conv => lhs; whnf) (by first | ((with_reducible repeat (first | exact Take.head _ _ | apply Take.tail)); done) | fail "not there") (by intro w; refine Eq.trans (by simp <;> exact rfl) ?_; exact rfl) rfl rfl (by simp only [setc, Value.cells, List.toList_toArray, List.set_cons_zero, List.set_cons_succ, Nat.reduceAdd] <;> exact rfl) ?_; clear hs; intro w hs))
    rw [show ((n : Int) / 10) = ((n / 10 : Nat) : Int) from by omega]
    refine (IH.out (n / 10) (by omega) (by omega)).on (by first | ((try simp only [List.append_eq, List.cons_append, List.nil_append]); (with_reducible repeat (first | exact Takes.nil _ | (apply Takes.cons; (repeat (first | exact Take.head _ _ | apply Take.tail))))); done) | fail "not there") hs ?_
    clear hs; intro v w hs; replace hs := On.pur_iff.1 (On.pack_iff.1 hs); obtain ⟨rfl, hs⟩ := hs; try simp only [List.append_eq, List.cons_append, List.nil_append] at hs
    have hsz : ¬ 9223372036854775807 < (dec (n / 10)).size + (strOfNums [48 + (n : Int) % 10]).size := by
      have h1 := dec_size (n / 10)
      have h2 : (strOfNums [48 + (n : Int) % 10]).size = 1 := rfl
      omega
    go_wp2_with (first | ((with_reducible refine wl_stop 3 ?_ ?_); exact rfl) | ((with_reducible refine wl_stop 4 ?_ ?_); exact rfl) | ((with_reducible refine wl_stop 5 ?_ ?_); exact rfl) | ((with_reducible refine wl_stop 6 ?_ ?_); exact rfl) | ((with_reducible refine wl_stop 8 ?_ ?_); exact rfl) | ((with_reducible refine wl_stop 9 ?_ ?_); exact rfl) | ((with_reducible refine wl_stop 10 ?_ ?_); exact rfl) | ((with_reducible refine wl_stop 11 ?_ ?_); exact rfl) | ((with_reducible refine wl_stop 12 ?_ ?_); exact rfl) | ((with_reducible refine wl_stop 13 ?_ ?_); exact rfl) | ((with_reducible refine wl_at 1 ?_ ?_); exact rfl; first | (refine wl_load1 hs rfl rfl (by conv => lhs; whnf) (by first | ((with_reducible repeat (first | exact At.head _ _ _ | exact At.headr _ _ _ | apply At.tail)); done) | fail "not there") (by first | (intro w; simp; done) | fail "not so") (by simp only [List.getElem?_toArray, List.getElem?_cons_succ, List.getElem?_cons_zero] <;> exact rfl) ?_) | (refine wl_loadN hs rfl rfl (by conv => lhs; whnf) (by first | ((with_reducible repeat (first | exact At.head _ _ _ | exact At.headr _ _ _ | apply At.tail)); done) | fail "not there") (by first | (intro w; simp; done) | fail "not so") (by intro w; refine Eq.trans (by simp <;> exact rfl) ?_; exact rfl) rfl (by simp only [List.toList_toArray, List.drop_succ_cons, List.drop_zero, List.take_succ_cons, List.take_zero]; exact rfl) ?_) | (refine wl_loadC hs rfl rfl (by conv => lhs; whnf) (by assumption) (by first | ((with_reducible repeat (first | exact Take.head _ _ | apply Take.tail)); done) | fail "not there") (by first | (intro w; simp; done) | fail "not so") ?_) | (refine wl_loadR hs rfl rfl (by conv => lhs; whnf) (by assumption) (by first | ((with_reducible repeat (first | exact Take.head _ _ | apply Take.tail)); done) | fail "not there") (by first | (intro w; simp; done) | fail "not so") (by intro w; refine Eq.trans (by simp <;> exact rfl) ?_; exact rfl) ?_)) | ((with_reducible refine wl_at 2 ?_ ?_); exact rfl; refine wl_store hs rfl rfl (by conv => lhs; whnf) (by conv => lhs; whnf) (by first | ((with_reducible repeat (first | exact Take.head _ _ | apply Take.tail)); done) | fail "not there") (by intro w; refine Eq.trans (by simp <;> exact rfl) ?_; exact rfl) rfl rfl (by simp only [setc, Value.cells, List.toList_toArray, List.set_cons_zero, List.set_cons_succ, Nat.reduceAdd] <;> exact rfl) ?_; clear hs; intro w hs))
    go_ret
    refine ⟨_, rfl, On.pack_iff.2 (On.pur_iff.2 ⟨?_, hs.get (by first | ((try simp only [List.append_eq, List.cons_append, List.nil_append]); (with_reducible repeat (first | exact Takes.nil _ | (apply Takes.cons; (repeat (first | exact Take.head _ _ | apply Take.tail))))); done) | fail "not there")⟩)⟩
    rw [HD.out]
    simp [dig]
  · have hd : dec n = dig n := by rw [dec, dif_neg h10]
    have hg : ¬ ((n : Int) ≥ 10) := by omega
    have HD := Lib.hid hd
    clear hd
    go_wp2_with (first | ((with_reducible refine wl_at 14 ?_ ?_); exact rfl; refine wl_convB (e := 5) (b := b0) (n := 1) (c := 1) [48 + (n % 10 : Nat)] hs rfl rfl (by conv => lhs; whnf) (by first | ((with_reducible repeat (first | exact At.head _ _ _ | exact At.headr _ _ _ | apply At.tail)); done) | fail "not there") (by simp) rfl Try.underlying87 Try.underlying5 Try.underlying9 ?_) | first | ((with_reducible refine wl_at 3 ?_ ?_); exact rfl; refine wl_newp hs rfl rfl (by intro w; refine Eq.trans (by go_simp; exact rfl) ?_; exact rfl) ?_; clear hs; intro b w hs) | ((with_reducible refine wl_at 4 ?_ ?_); exact rfl; refine wl_news hs rfl rfl (by intro w; refine Eq.trans (by go_simp; exact rfl) ?_; exact rfl) ?_; clear hs; intro b w hs) | ((with_reducible refine wl_at 5 ?_ ?_); exact rfl; refine wl_newm hs rfl rfl (by intro w; refine Eq.trans (by go_simp; exact rfl) ?_; exact rfl) ?_; clear hs; intro b w hs) | ((with_reducible refine wl_at 1 ?_ ?_); exact rfl; first | (refine wl_load1 hs rfl rfl (by conv => lhs; whnf) (by first | ((with_reducible repeat (first | exact At.head _ _ _ | exact At.headr _ _ _ | apply At.tail)); done) | fail "not there") (by first | (intro w; simp; done) | fail "not so") (by simp only [List.getElem?_toArray, List.getElem?_cons_succ, List.getElem?_cons_zero] <;> exact rfl) ?_) | (refine wl_loadN hs rfl rfl (by conv => lhs; whnf) (by first | ((with_reducible repeat (first | exact At.head _ _ _ | exact At.headr _ _ _ | apply At.tail)); done) | fail "not there") (by first | (intro w; simp; done) | fail "not so") (by intro w; refine Eq.trans (by simp <;> exact rfl) ?_; exact rfl) rfl (by simp only [List.toList_toArray, List.drop_succ_cons, List.drop_zero, List.take_succ_cons, List.take_zero]; exact rfl) ?_) | (refine wl_loadC hs rfl rfl (by conv => lhs; whnf) (by assumption) (by first | ((with_reducible repeat (first | exact Take.head _ _ | apply Take.tail)); done) | fail "not there") (by first | (intro w; simp; done) | fail "not so") ?_) | (refine wl_loadR hs rfl rfl (by conv => lhs; whnf) (by assumption) (by first | ((with_reducible repeat (first | exact Take.head _ _ | apply Take.tail)); done) | fail "not there") (by first | (intro w; simp; done) | fail "not so") (by intro w; refine Eq.trans (by simp <;> exact rfl) ?_; exact rfl) ?_)) | ((with_reducible refine wl_at 2 ?_ ?_); exact rfl; refine wl_store hs rfl rfl (by conv => lhs; whnf) (by conv => lhs; whnf) (by first | ((with_reducible repeat (first | exact Take.head _ _ | apply Take.tail)); done) | fail "not there") (by intro w; refine Eq.trans (by simp <;> exact rfl) ?_; exact rfl) rfl rfl (by simp only [setc, Value.cells, List.toList_toArray, List.set_cons_zero, List.set_cons_succ, Nat.reduceAdd] <;> exact rfl) ?_; clear hs; intro w hs))
    go_ret
    refine ⟨_, rfl, On.pack_iff.2 (On.pur_iff.2 ⟨?_, hs.get (by first | ((try simp only [List.append_eq, List.cons_append, List.nil_append]); (with_reducible repeat (first | exact Takes.nil _ | (apply Takes.cons; (repeat (first | exact Take.head _ _ | apply Take.tail))))); done) | fail "not there")⟩)⟩
    rw [HD.out]
    simp [dig]
end Go.Proofs.Ytediappljpkblaa
