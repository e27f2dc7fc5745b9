/- BeaconEach holds, whatever the input. -/
import Derived.Calls
import Derived.Orders
import Derived.RowKit3
import Derived.KernelRfl
import Derived.WalkKit
import Derived.Laws.IdiomStrings
import Derived.Laws.StructEq
import Derived.LoopN
import Derived.Test.YtejcabdejoameaaRows
import Derived.ProofKit
import Derived.OpenShut
import Derived.ChangeMaps5
import Derived.Test.YtejcabdejoameaaBe6
/- The next turn of a node. -/
set_option linter.unusedSimpArgs false
set_option linter.unusedVariables false
set_option maxHeartbeats 4000000
namespace Go.Proofs.Ytejcabdejoameaa.AI
open Go

/-- What the next turn is, among the first B numbers. -/
def NextIs (t : Tb) (k n B : Int) (v : Int) (ok : Bool) : Prop :=
  (¬ (t.Ok ∧ (1 ≤ n ∧ n ≤ 32) ∧ 0 ≤ k) → v = 0 ∧ ok = false) ∧
  (t.Ok ∧ (1 ≤ n ∧ n ≤ 32) ∧ 0 ≤ k → (ok = true → ∃ r : Nat, (r : Int) < B ∧ v = k + r ∧ t.due v n = true ∧ ∀ r' : Nat, r' < r → t.due (k + (r' : Int)) n = false) ∧ (ok = false → v = 0 ∧ ∀ r : Nat, (r : Int) < B → t.due (k + (r : Int)) n = false))
theorem due_period {t : Tb} (hok : t.Ok) {k n : Int} (hn : 1 ≤ n) (hk : 0 ≤ k) : t.due (k + t.len * n) n = t.due k n := by
  have hl := hok.len
  have hp : 0 ≤ t.len * n := Int.mul_nonneg (by omega) (by omega)
  have e1 : (k + t.len * n).tmod t.len = k.tmod t.len := by
    rw [Int.tmod_eq_emod_of_nonneg (by omega), Int.tmod_eq_emod_of_nonneg hk, Int.add_mul_emod_self_left]
  have e2 : ((k + t.len * n).tdiv t.len).tmod n = (k.tdiv t.len).tmod n := by
    rw [Int.tdiv_eq_ediv_of_nonneg (by omega), Int.tdiv_eq_ediv_of_nonneg hk, Int.add_mul_ediv_left _ _ (by omega)]
    have d0 : 0 ≤ k / t.len := Int.ediv_nonneg hk (by omega)
    rw [Int.tmod_eq_emod_of_nonneg (by omega), Int.tmod_eq_emod_of_nonneg d0, Int.add_emod_right]
  have e3 : t.at (k + t.len * n) = t.at k := by
    have e0 : (t.Ok ∧ 0 ≤ k + t.len * n) = (t.Ok ∧ 0 ≤ k) := propext ⟨fun q => ⟨q.1, hk⟩, fun q => ⟨q.1, by omega⟩⟩
    unfold Tb.at
    rw [if_pos ⟨hok, by omega⟩, if_pos ⟨hok, hk⟩, e1]
  have e4 : t.turn (k + t.len * n) n = t.turn k n := by
    have e0 : ((t.Ok ∧ 0 ≤ k + t.len * n ∧ 1 ≤ n ∧ n ≤ 32) ∧ ∃ x ∈ t.cs, hit3 (k.tmod t.len) x) = ((t.Ok ∧ 0 ≤ k ∧ 1 ≤ n ∧ n ≤ 32) ∧ ∃ x ∈ t.cs, hit3 (k.tmod t.len) x) := propext ⟨fun q => ⟨⟨q.1.1, hk, q.1.2.2⟩, q.2⟩, fun q => ⟨⟨q.1.1, by omega, q.1.2.2⟩, q.2⟩⟩
    unfold Tb.turn
    by_cases q : (t.Ok ∧ 0 ≤ k ∧ 1 ≤ n ∧ n ≤ 32) ∧ ∃ x ∈ t.cs, hit3 (k.tmod t.len) x
    · rw [if_pos q, if_pos (by rw [e1]; exact e0.mpr q), e1, e2]
    · rw [if_neg q, if_neg (fun w => q (by rw [e1] at w; exact e0.mp w))]
  unfold Tb.due
  rw [e3, e4]
theorem next_same {t : Tb} {k n v v' : Int} {ok ok' : Bool} (h : NextIs t k n (t.len * n) v ok) (h' : NextIs t k n ((n + 1) * t.len) v' ok') : v = v' ∧ ok = ok' := by
  by_cases c : t.Ok ∧ (1 ≤ n ∧ n ≤ 32) ∧ 0 ≤ k
  · obtain ⟨h1, h2⟩ := h.2 c
    obtain ⟨h3, h4⟩ := h'.2 c
    have hl := c.1.len
    have hB : (n + 1) * t.len = t.len * n + t.len := by rw [Int.add_mul, Int.mul_comm n, Int.one_mul]
    have hp : t.len * 1 ≤ t.len * n := Int.mul_le_mul_of_nonneg_left c.2.1.1 (by omega)
    rw [Int.mul_one] at hp
    cases ok with
    | true =>
      obtain ⟨r, r1, r2, r3, r4⟩ := h1 rfl
      cases ok' with
      | true =>
        obtain ⟨s, s1, s2, s3, s4⟩ := h3 rfl
        have : r = s := by
          rcases Nat.lt_trichotomy r s with q | q | q
          · have := s4 r q; rw [r2] at r3; rw [r3] at this; simp at this
          · exact q
          · have := r4 s q; rw [s2] at s3; rw [s3] at this; simp at this
        subst this
        exact ⟨by omega, rfl⟩
      | false =>
        have := (h4 rfl).2 r (by omega)
        rw [r2] at r3; rw [r3] at this; simp at this
    | false =>
      cases ok' with
      | true =>
        obtain ⟨s, s1, s2, s3, s4⟩ := h3 rfl
        exfalso
        by_cases q : (s : Int) < t.len * n
        · have := (h2 rfl).2 s q
          rw [s2] at s3; rw [s3] at this; simp at this
        · obtain ⟨m, hm⟩ : ∃ m : Nat, (m : Int) = t.len * n := ⟨(t.len * n).toNat, by omega⟩
          have h5 := (h2 rfl).2 (s - m) (by omega)
          have h6 := due_period c.1 (k := k + ((s - m : Nat) : Int)) c.2.1.1 (by omega)
          rw [show k + ((s - m : Nat) : Int) + t.len * n = v' by omega, s3, h5] at h6
          simp at h6
      | false => exact ⟨by rw [(h2 rfl).1, (h4 rfl).1], rfl⟩
  · obtain ⟨h1, h2⟩ := h.1 c
    obtain ⟨h3, h4⟩ := h'.1 c
    exact ⟨by omega, by rw [h2, h4]⟩

theorem eqs6 {a b c e f a' b' c' e' f' : Int} {d d' : Bool} : eqL [.int, .int, .int, .bool, .int, .int]
    [.int .i64 a, .int .i64 b, .int .i64 c, .bool d, .int .i64 e, .int .i64 f]
    [.int .i64 a', .int .i64 b', .int .i64 c', .bool d', .int .i64 e', .int .i64 f'] =
    some (decide (a = a' ∧ b = b' ∧ c = c' ∧ d = d' ∧ e = e' ∧ f = f')) := by
  simp only [eqL, eq1, if_true, zag]
  by_cases h1 : a = a' <;> by_cases h2 : b = b' <;> by_cases h3 : c = c' <;> cases d <;> cases d' <;> by_cases h5 : e = e' <;> by_cases h6 : f = f' <;> simp [h1, h2, h3, h5, h6]

theorem f119 {H : Heap} {t : Tb} {a : Option Addr} {z : Nat} {k n : Int} (h : TI H a z t.cs) (hk64 : Is64 k) (hn64 : Is64 n) (hk40 : k ≤ 1099511627776) {K : Value → Heap → Prop} (hk : ∀ H' v ok, Frm [] H H' → NextIs t k n ((n + 1) * t.len) v ok → K (.tuple #[.int .i64 v, .bool ok]) H') : Op1 (AC tbl 119 [t.v a z, .int .i64 k, .int .i64 n] H) K := by
  apply AC_wp (F := F119) rfl (by simp [F119]) (.inl rfl)
  have hg : hget (H ++ [some (⟨true, [.int .i64 t.node, .int .i64 t.len, .slice a t.cs.length z]⟩ : Blk)]) H.length = some (⟨true, [.int .i64 t.node, .int .i64 t.len, .slice a t.cs.length z]⟩ : Blk) := ydu
  have hG := h.push (some (⟨true, [.int .i64 t.node, .int .i64 t.len, .slice a t.cs.length z]⟩ : Blk))
  have f0 : Frm [] H (H ++ [some (⟨true, [.int .i64 t.node, .int .i64 t.len, .slice a t.cs.length z]⟩ : Blk)]) := (Frm.refl _ _).push _
  have htv : t.v a z = .agg #[.int .i64 t.node, .int .i64 t.len, .slice a t.cs.length z] := rfl
  rw [htv]
  simp only [F119, ↓yaa, ↓yab, ↓yac, ↓yad, ↓yae, ↓yaf, ↓yag, ↓yah, ↓yai, ↓ydb, ↓ydc, ↓ydd, ↓yde, ↓ydf, ↓ydg, ↓yao, ↓yap, ↓ydh, ↓ydi, ↓ydj, ↓ydk, ↓ydl, ↓ydm, ↓ydn, ↓ydo, ↓ydp, ↓yax, yay, yaz, yba, ybb, ybc, ybd, ybe, ybf, ybg, ybh, ybi, ybj, ybk, ybl, ybm, ybn, ybo, ybp, ybq, ybr, ybs, ybt, ybu, ybv, ares, tup, ybw, ybx, yby, argsE, dval, aop, ev, evs, evo, evp, fillL, addrOf, intOf?, ybz, yca, ycb, ycc, ycd, yce, ycf, zah, zag, reduceIte, Nat.reduceEqDiff, ycg, ych, yci, ycj, yck, ycl, ycm, ycn, yco, ycp, ycq, ycr, zap, zao, reduceCtorEq, zbb, zbc, zba, zaz, Nat.reduceAdd, Nat.reduceMul, zaq, zar, eqPtr, zae, zaf, zab, zaa, zac, zad, hload, hstore, zal, zam, Nat.reduceAdd, Nat.reduceLeDiff, zbb, zas, zat, one, zau, zaw, zav, splice, zaj, zak, zab, zaa, ycs, yct, ycu, ycv, ycw, ycx, ycy, ycz, zan, zai, zax, zay, and_self, true_and, and_true, lenV, yda, Nat.le_refl, if_true, ydq, ydr, yds, ne_eq, not_true_eq_false, not_false_eq_true, ← decide_not, Decidable.not_not, ydt, ydu, ydz, ydv, ydw, List.drop_zero, eq_self, Bool.false_eq_true, List.getElem?_toArray, yea, yeb, List.nil_append, List.cons_append, Bool.false_and, Int.reduceEq, Int.reduceLT, Int.reduceLE, Int.reduceNe, zbc, zbb, yec, yed, yee, yef, ydx, ydy, tk3, ls3]
  generalize H ++ [some (⟨true, [.int .i64 t.node, .int .i64 t.len, .slice a t.cs.length z]⟩ : Blk)] = G at *
  rw [← htv]
  have no : ∀ H', Frm [] H H' → ¬ (t.Ok ∧ (1 ≤ n ∧ n ≤ 32) ∧ 0 ≤ k) → K (.tuple #[.int .i64 0, .bool false]) H' := fun H' hf q => hk _ _ _ hf ⟨fun _ => ⟨rfl, rfl⟩, fun q2 => absurd q2 q⟩
  refine f141 hG fun H1 m f1 hm => ?_
  have ff := f0.then f1
  by_cases c0 : m = 0
  · have hok := hm.1 c0
    by_cases c1 : k < 0
    · simp only [↓yaa, ↓yab, ↓yac, ↓yad, ↓yae, ↓yaf, ↓yag, ↓yah, ↓yai, ↓ydb, ↓ydc, ↓ydd, ↓yde, ↓ydf, ↓ydg, ↓yao, ↓yap, ↓ydh, ↓ydi, ↓ydj, ↓ydk, ↓ydl, ↓ydm, ↓ydn, ↓ydo, ↓ydp, ↓yax, yay, yaz, yba, ybb, ybc, ybd, ybe, ybf, ybg, ybh, ybi, ybj, ybk, ybl, ybm, ybn, ybo, ybp, ybq, ybr, ybs, ybt, ybu, ybv, ares, tup, ybw, ybx, yby, argsE, dval, aop, ev, evs, evo, evp, fillL, addrOf, intOf?, ybz, yca, ycb, ycc, ycd, yce, ycf, zah, zag, reduceIte, Nat.reduceEqDiff, ycg, ych, yci, ycj, yck, ycl, ycm, ycn, yco, ycp, ycq, ycr, zap, zao, reduceCtorEq, zbb, zbc, zba, zaz, Nat.reduceAdd, Nat.reduceMul, zaq, zar, eqPtr, zae, zaf, zab, zaa, zac, zad, hload, hstore, zal, zam, Nat.reduceAdd, Nat.reduceLeDiff, zbb, zas, zat, one, zau, zaw, zav, splice, zaj, zak, zab, zaa, ycs, yct, ycu, ycv, ycw, ycx, ycy, ycz, zan, zai, zax, zay, and_self, true_and, and_true, lenV, yda, Nat.le_refl, if_true, ydq, ydr, yds, ne_eq, not_true_eq_false, not_false_eq_true, ← decide_not, Decidable.not_not, ydt, ydu, ydz, ydv, ydw, List.drop_zero, eq_self, Bool.false_eq_true, List.getElem?_toArray, yea, yeb, List.nil_append, List.cons_append, Bool.false_and, Int.reduceEq, Int.reduceLT, Int.reduceLE, Int.reduceNe, zbc, zbb, yec, yed, yee, yef, ydx, ydy, c0, c1]
      exact no _ ff (fun q => by have := q.2.2; omega)
    · by_cases c2 : n < 1
      · simp only [↓yaa, ↓yab, ↓yac, ↓yad, ↓yae, ↓yaf, ↓yag, ↓yah, ↓yai, ↓ydb, ↓ydc, ↓ydd, ↓yde, ↓ydf, ↓ydg, ↓yao, ↓yap, ↓ydh, ↓ydi, ↓ydj, ↓ydk, ↓ydl, ↓ydm, ↓ydn, ↓ydo, ↓ydp, ↓yax, yay, yaz, yba, ybb, ybc, ybd, ybe, ybf, ybg, ybh, ybi, ybj, ybk, ybl, ybm, ybn, ybo, ybp, ybq, ybr, ybs, ybt, ybu, ybv, ares, tup, ybw, ybx, yby, argsE, dval, aop, ev, evs, evo, evp, fillL, addrOf, intOf?, ybz, yca, ycb, ycc, ycd, yce, ycf, zah, zag, reduceIte, Nat.reduceEqDiff, ycg, ych, yci, ycj, yck, ycl, ycm, ycn, yco, ycp, ycq, ycr, zap, zao, reduceCtorEq, zbb, zbc, zba, zaz, Nat.reduceAdd, Nat.reduceMul, zaq, zar, eqPtr, zae, zaf, zab, zaa, zac, zad, hload, hstore, zal, zam, Nat.reduceAdd, Nat.reduceLeDiff, zbb, zas, zat, one, zau, zaw, zav, splice, zaj, zak, zab, zaa, ycs, yct, ycu, ycv, ycw, ycx, ycy, ycz, zan, zai, zax, zay, and_self, true_and, and_true, lenV, yda, Nat.le_refl, if_true, ydq, ydr, yds, ne_eq, not_true_eq_false, not_false_eq_true, ← decide_not, Decidable.not_not, ydt, ydu, ydz, ydv, ydw, List.drop_zero, eq_self, Bool.false_eq_true, List.getElem?_toArray, yea, yeb, List.nil_append, List.cons_append, Bool.false_and, Int.reduceEq, Int.reduceLT, Int.reduceLE, Int.reduceNe, zbc, zbb, yec, yed, yee, yef, ydx, ydy, c0, c1, c2]
        exact no _ ff (fun q => by have := q.2.1; omega)
      · by_cases c3 : 32 < n
        · simp only [↓yaa, ↓yab, ↓yac, ↓yad, ↓yae, ↓yaf, ↓yag, ↓yah, ↓yai, ↓ydb, ↓ydc, ↓ydd, ↓yde, ↓ydf, ↓ydg, ↓yao, ↓yap, ↓ydh, ↓ydi, ↓ydj, ↓ydk, ↓ydl, ↓ydm, ↓ydn, ↓ydo, ↓ydp, ↓yax, yay, yaz, yba, ybb, ybc, ybd, ybe, ybf, ybg, ybh, ybi, ybj, ybk, ybl, ybm, ybn, ybo, ybp, ybq, ybr, ybs, ybt, ybu, ybv, ares, tup, ybw, ybx, yby, argsE, dval, aop, ev, evs, evo, evp, fillL, addrOf, intOf?, ybz, yca, ycb, ycc, ycd, yce, ycf, zah, zag, reduceIte, Nat.reduceEqDiff, ycg, ych, yci, ycj, yck, ycl, ycm, ycn, yco, ycp, ycq, ycr, zap, zao, reduceCtorEq, zbb, zbc, zba, zaz, Nat.reduceAdd, Nat.reduceMul, zaq, zar, eqPtr, zae, zaf, zab, zaa, zac, zad, hload, hstore, zal, zam, Nat.reduceAdd, Nat.reduceLeDiff, zbb, zas, zat, one, zau, zaw, zav, splice, zaj, zak, zab, zaa, ycs, yct, ycu, ycv, ycw, ycx, ycy, ycz, zan, zai, zax, zay, and_self, true_and, and_true, lenV, yda, Nat.le_refl, if_true, ydq, ydr, yds, ne_eq, not_true_eq_false, not_false_eq_true, ← decide_not, Decidable.not_not, ydt, ydu, ydz, ydv, ydw, List.drop_zero, eq_self, Bool.false_eq_true, List.getElem?_toArray, yea, yeb, List.nil_append, List.cons_append, Bool.false_and, Int.reduceEq, Int.reduceLT, Int.reduceLE, Int.reduceNe, zbc, zbb, yec, yed, yee, yef, ydx, ydy, c0, c1, c2, c3]
          exact no _ ff (fun q => by have := q.2.1; omega)
        · have hl := hok.len
          have m0 : 0 ≤ (n + 1) * t.len := Int.mul_nonneg (by omega) (by omega)
          have m1 : (n + 1) * t.len ≤ 33 * 512 := Int.mul_le_mul (by omega) (by omega) (by omega) (by omega)
          have w1 : IntKind.i64.wrap (n + 1) = n + 1 := wrap_i64 (by omega) (by omega)
          have w2 : IntKind.i64.wrap ((n + 1) * t.len) = (n + 1) * t.len := wrap_i64 (by omega) (by omega)
          simp only [↓yaa, ↓yab, ↓yac, ↓yad, ↓yae, ↓yaf, ↓yag, ↓yah, ↓yai, ↓ydb, ↓ydc, ↓ydd, ↓yde, ↓ydf, ↓ydg, ↓yao, ↓yap, ↓ydh, ↓ydi, ↓ydj, ↓ydk, ↓ydl, ↓ydm, ↓ydn, ↓ydo, ↓ydp, ↓yax, yay, yaz, yba, ybb, ybc, ybd, ybe, ybf, ybg, ybh, ybi, ybj, ybk, ybl, ybm, ybn, ybo, ybp, ybq, ybr, ybs, ybt, ybu, ybv, ares, tup, ybw, ybx, yby, argsE, dval, aop, ev, evs, evo, evp, fillL, addrOf, intOf?, ybz, yca, ycb, ycc, ycd, yce, ycf, zah, zag, reduceIte, Nat.reduceEqDiff, ycg, ych, yci, ycj, yck, ycl, ycm, ycn, yco, ycp, ycq, ycr, zap, zao, reduceCtorEq, zbb, zbc, zba, zaz, Nat.reduceAdd, Nat.reduceMul, zaq, zar, eqPtr, zae, zaf, zab, zaa, zac, zad, hload, hstore, zal, zam, Nat.reduceAdd, Nat.reduceLeDiff, zbb, zas, zat, one, zau, zaw, zav, splice, zaj, zak, zab, zaa, ycs, yct, ycu, ycv, ycw, ycx, ycy, ycz, zan, zai, zax, zay, and_self, true_and, and_true, lenV, yda, Nat.le_refl, if_true, ydq, ydr, yds, ne_eq, not_true_eq_false, not_false_eq_true, ← decide_not, Decidable.not_not, ydt, ydu, ydz, ydv, ydw, List.drop_zero, eq_self, Bool.false_eq_true, List.getElem?_toArray, yea, yeb, List.nil_append, List.cons_append, Bool.false_and, Int.reduceEq, Int.reduceLT, Int.reduceLE, Int.reduceNe, zbc, zbb, yec, yed, yee, yef, ydx, ydy, c0, c1, c2, c3]
          apply AW_loop_inv (fun k' e H2 => ∃ i : Nat, (i : Int) + k' = (n + 1) * t.len ∧ e = [(1, .int .i64 k), (2, .int .i64 n), (3, .pointer (some ⟨H.length, 0, none⟩)), (8, .int .i64 (i : Int))] ∧ Frm [] H1 H2 ∧ ∀ r : Nat, r < i → t.due (k + (r : Int)) n = false) _ ((n + 1) * t.len).toNat
          · exact ⟨0, by omega, rfl, Frm.refl _ _, fun r hr => by omega⟩
          · rintro k' e H2 ⟨i, hik, rfl, hf, hx⟩
            have gb := hf.gets (f1.gets hg)
            cases k' with
            | zero =>
              have g0 : ¬ (i : Int) < (n + 1) * t.len := by omega
              simp only [↓yaa, ↓yab, ↓yac, ↓yad, ↓yae, ↓yaf, ↓yag, ↓yah, ↓yai, ↓ydb, ↓ydc, ↓ydd, ↓yde, ↓ydf, ↓ydg, ↓yao, ↓yap, ↓ydh, ↓ydi, ↓ydj, ↓ydk, ↓ydl, ↓ydm, ↓ydn, ↓ydo, ↓ydp, ↓yax, yay, yaz, yba, ybb, ybc, ybd, ybe, ybf, ybg, ybh, ybi, ybj, ybk, ybl, ybm, ybn, ybo, ybp, ybq, ybr, ybs, ybt, ybu, ybv, ares, tup, ybw, ybx, yby, argsE, dval, aop, ev, evs, evo, evp, fillL, addrOf, intOf?, ybz, yca, ycb, ycc, ycd, yce, ycf, zah, zag, reduceIte, Nat.reduceEqDiff, ycg, ych, yci, ycj, yck, ycl, ycm, ycn, yco, ycp, ycq, ycr, zap, zao, reduceCtorEq, zbb, zbc, zba, zaz, Nat.reduceAdd, Nat.reduceMul, zaq, zar, eqPtr, zae, zaf, zab, zaa, zac, zad, hload, hstore, zal, zam, Nat.reduceAdd, Nat.reduceLeDiff, zbb, zas, zat, one, zau, zaw, zav, splice, zaj, zak, zab, zaa, ycs, yct, ycu, ycv, ycw, ycx, ycy, ycz, zan, zai, zax, zay, and_self, true_and, and_true, lenV, yda, Nat.le_refl, if_true, ydq, ydr, yds, ne_eq, not_true_eq_false, not_false_eq_true, ← decide_not, Decidable.not_not, ydt, ydu, ydz, ydv, ydw, List.drop_zero, eq_self, Bool.false_eq_true, List.getElem?_toArray, yea, yeb, List.nil_append, List.cons_append, Bool.false_and, Int.reduceEq, Int.reduceLT, Int.reduceLE, Int.reduceNe, zbc, zbb, yec, yed, yee, yef, ydx, ydy, gb, w1, w2, g0]
              exact hk _ _ _ (ff.then hf) ⟨fun q => absurd ⟨hok, by omega, by omega⟩ q, fun _ => ⟨fun q => by simp at q, fun _ => ⟨rfl, fun r hr => hx r (by omega)⟩⟩⟩
            | succ k' =>
              have g0 : (i : Int) < (n + 1) * t.len := by omega
              have w3 : IntKind.i64.wrap (k + (i : Int)) = k + (i : Int) := wrap_i64 (by omega) (by omega)
              have g3 : IntKind.i64.wrap ((i : Int) + 1) = ((i + 1 : Nat) : Int) := by rw [wrap_i64 (by omega) (by omega)]; omega
              simp only [↓yaa, ↓yab, ↓yac, ↓yad, ↓yae, ↓yaf, ↓yag, ↓yah, ↓yai, ↓ydb, ↓ydc, ↓ydd, ↓yde, ↓ydf, ↓ydg, ↓yao, ↓yap, ↓ydh, ↓ydi, ↓ydj, ↓ydk, ↓ydl, ↓ydm, ↓ydn, ↓ydo, ↓ydp, ↓yax, yay, yaz, yba, ybb, ybc, ybd, ybe, ybf, ybg, ybh, ybi, ybj, ybk, ybl, ybm, ybn, ybo, ybp, ybq, ybr, ybs, ybt, ybu, ybv, ares, tup, ybw, ybx, yby, argsE, dval, aop, ev, evs, evo, evp, fillL, addrOf, intOf?, ybz, yca, ycb, ycc, ycd, yce, ycf, zah, zag, reduceIte, Nat.reduceEqDiff, ycg, ych, yci, ycj, yck, ycl, ycm, ycn, yco, ycp, ycq, ycr, zap, zao, reduceCtorEq, zbb, zbc, zba, zaz, Nat.reduceAdd, Nat.reduceMul, zaq, zar, eqPtr, zae, zaf, zab, zaa, zac, zad, hload, hstore, zal, zam, Nat.reduceAdd, Nat.reduceLeDiff, zbb, zas, zat, one, zau, zaw, zav, splice, zaj, zak, zab, zaa, ycs, yct, ycu, ycv, ycw, ycx, ycy, ycz, zan, zai, zax, zay, and_self, true_and, and_true, lenV, yda, Nat.le_refl, if_true, ydq, ydr, yds, ne_eq, not_true_eq_false, not_false_eq_true, ← decide_not, Decidable.not_not, ydt, ydu, ydz, ydv, ydw, List.drop_zero, eq_self, Bool.false_eq_true, List.getElem?_toArray, yea, yeb, List.nil_append, List.cons_append, Bool.false_and, Int.reduceEq, Int.reduceLT, Int.reduceLE, Int.reduceNe, zbc, zbb, yec, yed, yee, yef, ydx, ydy, gb, w1, w2, w3, g0, tk3, ls3]
              rw [← htv]
              refine f121 ((hG.frame0 f1).frame0 hf) ⟨by omega, by omega⟩ fun H3 f3 => ?_
              cases hd : t.due (k + (i : Int)) n with
              | true =>
                simp only [↓yaa, ↓yab, ↓yac, ↓yad, ↓yae, ↓yaf, ↓yag, ↓yah, ↓yai, ↓ydb, ↓ydc, ↓ydd, ↓yde, ↓ydf, ↓ydg, ↓yao, ↓yap, ↓ydh, ↓ydi, ↓ydj, ↓ydk, ↓ydl, ↓ydm, ↓ydn, ↓ydo, ↓ydp, ↓yax, yay, yaz, yba, ybb, ybc, ybd, ybe, ybf, ybg, ybh, ybi, ybj, ybk, ybl, ybm, ybn, ybo, ybp, ybq, ybr, ybs, ybt, ybu, ybv, ares, tup, ybw, ybx, yby, argsE, dval, aop, ev, evs, evo, evp, fillL, addrOf, intOf?, ybz, yca, ycb, ycc, ycd, yce, ycf, zah, zag, reduceIte, Nat.reduceEqDiff, ycg, ych, yci, ycj, yck, ycl, ycm, ycn, yco, ycp, ycq, ycr, zap, zao, reduceCtorEq, zbb, zbc, zba, zaz, Nat.reduceAdd, Nat.reduceMul, zaq, zar, eqPtr, zae, zaf, zab, zaa, zac, zad, hload, hstore, zal, zam, Nat.reduceAdd, Nat.reduceLeDiff, zbb, zas, zat, one, zau, zaw, zav, splice, zaj, zak, zab, zaa, ycs, yct, ycu, ycv, ycw, ycx, ycy, ycz, zan, zai, zax, zay, and_self, true_and, and_true, lenV, yda, Nat.le_refl, if_true, ydq, ydr, yds, ne_eq, not_true_eq_false, not_false_eq_true, ← decide_not, Decidable.not_not, ydt, ydu, ydz, ydv, ydw, List.drop_zero, eq_self, Bool.false_eq_true, List.getElem?_toArray, yea, yeb, List.nil_append, List.cons_append, Bool.false_and, Int.reduceEq, Int.reduceLT, Int.reduceLE, Int.reduceNe, zbc, zbb, yec, yed, yee, yef, ydx, ydy, w3]
                exact hk _ _ _ (ff.then (hf.then f3)) ⟨fun q => absurd ⟨hok, by omega, by omega⟩ q, fun _ => ⟨fun _ => ⟨i, by omega, rfl, hd, hx⟩, fun q => by simp at q⟩⟩
              | false =>
                simp only [↓yaa, ↓yab, ↓yac, ↓yad, ↓yae, ↓yaf, ↓yag, ↓yah, ↓yai, ↓ydb, ↓ydc, ↓ydd, ↓yde, ↓ydf, ↓ydg, ↓yao, ↓yap, ↓ydh, ↓ydi, ↓ydj, ↓ydk, ↓ydl, ↓ydm, ↓ydn, ↓ydo, ↓ydp, ↓yax, yay, yaz, yba, ybb, ybc, ybd, ybe, ybf, ybg, ybh, ybi, ybj, ybk, ybl, ybm, ybn, ybo, ybp, ybq, ybr, ybs, ybt, ybu, ybv, ares, tup, ybw, ybx, yby, argsE, dval, aop, ev, evs, evo, evp, fillL, addrOf, intOf?, ybz, yca, ycb, ycc, ycd, yce, ycf, zah, zag, reduceIte, Nat.reduceEqDiff, ycg, ych, yci, ycj, yck, ycl, ycm, ycn, yco, ycp, ycq, ycr, zap, zao, reduceCtorEq, zbb, zbc, zba, zaz, Nat.reduceAdd, Nat.reduceMul, zaq, zar, eqPtr, zae, zaf, zab, zaa, zac, zad, hload, hstore, zal, zam, Nat.reduceAdd, Nat.reduceLeDiff, zbb, zas, zat, one, zau, zaw, zav, splice, zaj, zak, zab, zaa, ycs, yct, ycu, ycv, ycw, ycx, ycy, ycz, zan, zai, zax, zay, and_self, true_and, and_true, lenV, yda, Nat.le_refl, if_true, ydq, ydr, yds, ne_eq, not_true_eq_false, not_false_eq_true, ← decide_not, Decidable.not_not, ydt, ydu, ydz, ydv, ydw, List.drop_zero, eq_self, Bool.false_eq_true, List.getElem?_toArray, yea, yeb, List.nil_append, List.cons_append, Bool.false_and, Int.reduceEq, Int.reduceLT, Int.reduceLE, Int.reduceNe, zbc, zbb, yec, yed, yee, yef, ydx, ydy, g3]
                refine ⟨k', by omega, i + 1, by omega, rfl, hf.then f3, fun r hr => ?_⟩
                by_cases e : r = i
                · subst e; exact hd
                · exact hx r (by omega)
  · simp only [↓yaa, ↓yab, ↓yac, ↓yad, ↓yae, ↓yaf, ↓yag, ↓yah, ↓yai, ↓ydb, ↓ydc, ↓ydd, ↓yde, ↓ydf, ↓ydg, ↓yao, ↓yap, ↓ydh, ↓ydi, ↓ydj, ↓ydk, ↓ydl, ↓ydm, ↓ydn, ↓ydo, ↓ydp, ↓yax, yay, yaz, yba, ybb, ybc, ybd, ybe, ybf, ybg, ybh, ybi, ybj, ybk, ybl, ybm, ybn, ybo, ybp, ybq, ybr, ybs, ybt, ybu, ybv, ares, tup, ybw, ybx, yby, argsE, dval, aop, ev, evs, evo, evp, fillL, addrOf, intOf?, ybz, yca, ycb, ycc, ycd, yce, ycf, zah, zag, reduceIte, Nat.reduceEqDiff, ycg, ych, yci, ycj, yck, ycl, ycm, ycn, yco, ycp, ycq, ycr, zap, zao, reduceCtorEq, zbb, zbc, zba, zaz, Nat.reduceAdd, Nat.reduceMul, zaq, zar, eqPtr, zae, zaf, zab, zaa, zac, zad, hload, hstore, zal, zam, Nat.reduceAdd, Nat.reduceLeDiff, zbb, zas, zat, one, zau, zaw, zav, splice, zaj, zak, zab, zaa, ycs, yct, ycu, ycv, ycw, ycx, ycy, ycz, zan, zai, zax, zay, and_self, true_and, and_true, lenV, yda, Nat.le_refl, if_true, ydq, ydr, yds, ne_eq, not_true_eq_false, not_false_eq_true, ← decide_not, Decidable.not_not, ydt, ydu, ydz, ydv, ydw, List.drop_zero, eq_self, Bool.false_eq_true, List.getElem?_toArray, yea, yeb, List.nil_append, List.cons_append, Bool.false_and, Int.reduceEq, Int.reduceLT, Int.reduceLE, Int.reduceNe, zbc, zbb, yec, yed, yee, yef, ydx, ydy, c0]
    exact no _ ff (fun q => c0 (hm.2 q.1))

theorem at_eq {t : Tb} (hok : t.Ok) {k : Int} (hk : 0 ≤ k) : t.at k = t.cs.find? (fun x => decide (x.s = k.tmod t.len)) := by unfold Tb.at; rw [if_pos ⟨hok, hk⟩]
theorem at_own {t : Tb} (hok : t.Ok) {x : TC} (hx : x ∈ t.cs) {k : Int} (hk : 0 ≤ k) (he : x.s = k.tmod t.len) : t.at x.s = t.at k := by
  obtain ⟨i, hi, rfl⟩ := List.getElem_of_mem hx
  have hf := (hok.form i _ (List.getElem?_eq_getElem hi)).2.2.2.1
  rw [at_eq hok hk, at_eq hok hf.1, Int.tmod_eq_of_lt hf.1 hf.2, he]
/-- The slots in which it may be somebody's turn. -/
def FlagOk (t : Tb) (fl : List Bool) (i : Nat) : Prop := (fl.length : Int) = t.len ∧ ∀ j : Nat, fl[j]? = some true ↔ ∃ m x, m < i ∧ t.cs[m]? = some x ∧ t.at x.s = some x ∧ x.w = 3 ∧ x.s = (j : Int)
theorem flag_at {t : Tb} (hok : t.Ok) {fl : List Bool} {i : Nat} (hi : t.cs.length ≤ i) (h : FlagOk t fl i) {k : Int} (hk : 0 ≤ k) : fl[(k.tmod t.len).toNat]? = some true ↔ ∃ x, t.at k = some x ∧ x.w = 3 := by
  have hl := hok.len
  have m0 : 0 ≤ k.tmod t.len := Int.tmod_nonneg _ hk
  rw [h.2]
  refine ⟨fun ⟨m, x, h1, h2, h3, h4, h5⟩ => ⟨x, ?_, h4⟩, fun ⟨x, h1, h2⟩ => ?_⟩
  · rw [← at_own hok (List.mem_of_getElem? h2) hk (by omega)]; exact h3
  · have h3 := h1
    rw [at_eq hok hk] at h3
    have hm := List.mem_of_find?_eq_some h3
    have hs := List.find?_some h3
    simp only [decide_eq_true_eq] at hs
    obtain ⟨m, hm2, e⟩ := List.getElem_of_mem hm
    refine ⟨m, x, by omega, ?_, ?_, h2, by omega⟩
    · rw [List.getElem?_eq_getElem hm2, e]
    · rw [at_own hok hm hk hs]; exact h1
theorem due_flag {t : Tb} (hok : t.Ok) {k n : Int} (hk : 0 ≤ k) (h : ¬ ∃ x, t.at k = some x ∧ x.w = 3) : t.due k n = false := by
  unfold Tb.due
  cases ha : t.at k with
  | none => rfl
  | some x =>
    have : ¬ x.w = 3 := fun q => h ⟨x, ha, q⟩
    simp [this]
theorem due_flag2 {t : Tb} (hok : t.Ok) {k n : Int} (hk : 0 ≤ k) (hn : 1 ≤ n ∧ n ≤ 32) (h : ∃ x, t.at k = some x ∧ x.w = 3) : (∃ x ∈ t.cs, hit3 (k.tmod t.len) x) ∧ t.due k n = decide (((k.tdiv t.len).tmod n * (t.cnt : Int) + (t.bef (k.tmod t.len) : Int)).tmod n = t.node.tmod n) := by
  obtain ⟨x, h1, h2⟩ := h
  have h3 := h1
  rw [at_eq hok hk] at h3
  have hm := List.mem_of_find?_eq_some h3
  have hs := List.find?_some h3
  simp only [decide_eq_true_eq] at hs
  have hex : ∃ x ∈ t.cs, hit3 (k.tmod t.len) x := ⟨x, hm, h2, hs⟩
  refine ⟨hex, ?_⟩
  have ht : t.turn k n = (((k.tdiv t.len).tmod n * (t.cnt : Int) + (t.bef (k.tmod t.len) : Int)).tmod n, true) := by
    unfold Tb.turn; rw [if_pos ⟨⟨hok, hk, hn⟩, hex⟩]
  unfold Tb.due
  rw [h1, ht]
  simp [h2]
theorem flags0 (n : Nat) : (List.replicate n [Value.bool false]).flatten = (List.replicate n false).map Value.bool := by
  induction n with
  | zero => rfl
  | succ n ih => simp only [List.replicate_succ, List.flatten_cons, List.map_cons, ih]; rfl

theorem f118 {H : Heap} {t : Tb} {a : Option Addr} {z : Nat} {k n : Int} (h : TI H a z t.cs) (hk64 : Is64 k) (hn64 : Is64 n) (hk40 : k ≤ 1099511627776) {K : Value → Heap → Prop} (hk : ∀ H' v ok, Frm [] H H' → NextIs t k n (t.len * n) v ok → K (.tuple #[.int .i64 v, .bool ok]) H') : Op1 (AC tbl 118 [t.v a z, .int .i64 k, .int .i64 n] H) K := by
  apply AC_wp (F := F118) rfl (by simp [F118]) (.inl rfl)
  have hg : hget (H ++ [some (⟨true, [.int .i64 t.node, .int .i64 t.len, .slice a t.cs.length z]⟩ : Blk)]) H.length = some (⟨true, [.int .i64 t.node, .int .i64 t.len, .slice a t.cs.length z]⟩ : Blk) := ydu
  have hG := h.push (some (⟨true, [.int .i64 t.node, .int .i64 t.len, .slice a t.cs.length z]⟩ : Blk))
  have f0 : Frm [] H (H ++ [some (⟨true, [.int .i64 t.node, .int .i64 t.len, .slice a t.cs.length z]⟩ : Blk)]) := (Frm.refl _ _).push _
  have htv : t.v a z = .agg #[.int .i64 t.node, .int .i64 t.len, .slice a t.cs.length z] := rfl
  rw [htv]
  simp only [F118, ↓yaa, ↓yab, ↓yac, ↓yad, ↓yae, ↓yaf, ↓yag, ↓yah, ↓yai, ↓ydb, ↓ydc, ↓ydd, ↓yde, ↓ydf, ↓ydg, ↓yao, ↓yap, ↓ydh, ↓ydi, ↓ydj, ↓ydk, ↓ydl, ↓ydm, ↓ydn, ↓ydo, ↓ydp, ↓yax, yay, yaz, yba, ybb, ybc, ybd, ybe, ybf, ybg, ybh, ybi, ybj, ybk, ybl, ybm, ybn, ybo, ybp, ybq, ybr, ybs, ybt, ybu, ybv, ares, tup, ybw, ybx, yby, argsE, dval, aop, ev, evs, evo, evp, fillL, addrOf, intOf?, ybz, yca, ycb, ycc, ycd, yce, ycf, zah, zag, reduceIte, Nat.reduceEqDiff, ycg, ych, yci, ycj, yck, ycl, ycm, ycn, yco, ycp, ycq, ycr, zap, zao, reduceCtorEq, zbb, zbc, zba, zaz, Nat.reduceAdd, Nat.reduceMul, zaq, zar, eqPtr, zae, zaf, zab, zaa, zac, zad, hload, hstore, zal, zam, Nat.reduceAdd, Nat.reduceLeDiff, zbb, zas, zat, one, zau, zaw, zav, splice, zaj, zak, zab, zaa, ycs, yct, ycu, ycv, ycw, ycx, ycy, ycz, zan, zai, zax, zay, and_self, true_and, and_true, lenV, yda, Nat.le_refl, if_true, ydq, ydr, yds, ne_eq, not_true_eq_false, not_false_eq_true, ← decide_not, Decidable.not_not, ydt, ydu, ydz, ydv, ydw, List.drop_zero, eq_self, Bool.false_eq_true, List.getElem?_toArray, yea, yeb, List.nil_append, List.cons_append, Bool.false_and, Int.reduceEq, Int.reduceLT, Int.reduceLE, Int.reduceNe, zbc, zbb, yec, yed, yee, yef, ydx, ydy, tk3, ls3]
  generalize H ++ [some (⟨true, [.int .i64 t.node, .int .i64 t.len, .slice a t.cs.length z]⟩ : Blk)] = G at *
  rw [← htv]
  have no : ∀ H', Frm [] H H' → ¬ (t.Ok ∧ (1 ≤ n ∧ n ≤ 32) ∧ 0 ≤ k) → K (.tuple #[.int .i64 0, .bool false]) H' := fun H' hf q => hk _ _ _ hf ⟨fun _ => ⟨rfl, rfl⟩, fun q2 => absurd q2 q⟩
  refine f139 hG fun H1 b f1 hb => ?_
  have ff := f0.then f1
  cases b with
  | false =>
    simp only [↓yaa, ↓yab, ↓yac, ↓yad, ↓yae, ↓yaf, ↓yag, ↓yah, ↓yai, ↓ydb, ↓ydc, ↓ydd, ↓yde, ↓ydf, ↓ydg, ↓yao, ↓yap, ↓ydh, ↓ydi, ↓ydj, ↓ydk, ↓ydl, ↓ydm, ↓ydn, ↓ydo, ↓ydp, ↓yax, yay, yaz, yba, ybb, ybc, ybd, ybe, ybf, ybg, ybh, ybi, ybj, ybk, ybl, ybm, ybn, ybo, ybp, ybq, ybr, ybs, ybt, ybu, ybv, ares, tup, ybw, ybx, yby, argsE, dval, aop, ev, evs, evo, evp, fillL, addrOf, intOf?, ybz, yca, ycb, ycc, ycd, yce, ycf, zah, zag, reduceIte, Nat.reduceEqDiff, ycg, ych, yci, ycj, yck, ycl, ycm, ycn, yco, ycp, ycq, ycr, zap, zao, reduceCtorEq, zbb, zbc, zba, zaz, Nat.reduceAdd, Nat.reduceMul, zaq, zar, eqPtr, zae, zaf, zab, zaa, zac, zad, hload, hstore, zal, zam, Nat.reduceAdd, Nat.reduceLeDiff, zbb, zas, zat, one, zau, zaw, zav, splice, zaj, zak, zab, zaa, ycs, yct, ycu, ycv, ycw, ycx, ycy, ycz, zan, zai, zax, zay, and_self, true_and, and_true, lenV, yda, Nat.le_refl, if_true, ydq, ydr, yds, ne_eq, not_true_eq_false, not_false_eq_true, ← decide_not, Decidable.not_not, ydt, ydu, ydz, ydv, ydw, List.drop_zero, eq_self, Bool.false_eq_true, List.getElem?_toArray, yea, yeb, List.nil_append, List.cons_append, Bool.false_and, Int.reduceEq, Int.reduceLT, Int.reduceLE, Int.reduceNe, zbc, zbb, yec, yed, yee, yef, ydx, ydy]
    exact no _ ff (fun q => by have := hb.2 ⟨q.1, q.2.1⟩; simp at this)
  | true =>
    obtain ⟨hok, hn⟩ := hb.1 rfl
    by_cases c1 : k < 0
    · simp only [↓yaa, ↓yab, ↓yac, ↓yad, ↓yae, ↓yaf, ↓yag, ↓yah, ↓yai, ↓ydb, ↓ydc, ↓ydd, ↓yde, ↓ydf, ↓ydg, ↓yao, ↓yap, ↓ydh, ↓ydi, ↓ydj, ↓ydk, ↓ydl, ↓ydm, ↓ydn, ↓ydo, ↓ydp, ↓yax, yay, yaz, yba, ybb, ybc, ybd, ybe, ybf, ybg, ybh, ybi, ybj, ybk, ybl, ybm, ybn, ybo, ybp, ybq, ybr, ybs, ybt, ybu, ybv, ares, tup, ybw, ybx, yby, argsE, dval, aop, ev, evs, evo, evp, fillL, addrOf, intOf?, ybz, yca, ycb, ycc, ycd, yce, ycf, zah, zag, reduceIte, Nat.reduceEqDiff, ycg, ych, yci, ycj, yck, ycl, ycm, ycn, yco, ycp, ycq, ycr, zap, zao, reduceCtorEq, zbb, zbc, zba, zaz, Nat.reduceAdd, Nat.reduceMul, zaq, zar, eqPtr, zae, zaf, zab, zaa, zac, zad, hload, hstore, zal, zam, Nat.reduceAdd, Nat.reduceLeDiff, zbb, zas, zat, one, zau, zaw, zav, splice, zaj, zak, zab, zaa, ycs, yct, ycu, ycv, ycw, ycx, ycy, ycz, zan, zai, zax, zay, and_self, true_and, and_true, lenV, yda, Nat.le_refl, if_true, ydq, ydr, yds, ne_eq, not_true_eq_false, not_false_eq_true, ← decide_not, Decidable.not_not, ydt, ydu, ydz, ydv, ydw, List.drop_zero, eq_self, Bool.false_eq_true, List.getElem?_toArray, yea, yeb, List.nil_append, List.cons_append, Bool.false_and, Int.reduceEq, Int.reduceLT, Int.reduceLE, Int.reduceNe, zbc, zbb, yec, yed, yee, yef, ydx, ydy, c1]
      exact no _ ff (fun q => by have := q.2.2; omega)
    · have g1 := f1.gets hg
      have hl := hok.len
      have hfew := hok.few
      have s1 : 0 ≤ t.len ∧ t.len ≤ t.len ∧ t.len ≤ 1000000000 ∧ (1 : Nat) ≤ 1000 := ⟨by omega, by omega, by omega, by omega⟩
      have s2 : t.len ≤ 1000000000 := by omega
      have s3 : 0 ≤ t.len := by omega
      have s4 : (1 : Nat) ≤ 1000 := by omega
      have s5 : t.len ≤ t.len := by omega
      have l1 := hget_lt g1
      simp only [↓yaa, ↓yab, ↓yac, ↓yad, ↓yae, ↓yaf, ↓yag, ↓yah, ↓yai, ↓ydb, ↓ydc, ↓ydd, ↓yde, ↓ydf, ↓ydg, ↓yao, ↓yap, ↓ydh, ↓ydi, ↓ydj, ↓ydk, ↓ydl, ↓ydm, ↓ydn, ↓ydo, ↓ydp, ↓yax, yay, yaz, yba, ybb, ybc, ybd, ybe, ybf, ybg, ybh, ybi, ybj, ybk, ybl, ybm, ybn, ybo, ybp, ybq, ybr, ybs, ybt, ybu, ybv, ares, tup, ybw, ybx, yby, argsE, dval, aop, ev, evs, evo, evp, fillL, addrOf, intOf?, ybz, yca, ycb, ycc, ycd, yce, ycf, zah, zag, reduceIte, Nat.reduceEqDiff, ycg, ych, yci, ycj, yck, ycl, ycm, ycn, yco, ycp, ycq, ycr, zap, zao, reduceCtorEq, zbb, zbc, zba, zaz, Nat.reduceAdd, Nat.reduceMul, zaq, zar, eqPtr, zae, zaf, zab, zaa, zac, zad, hload, hstore, zal, zam, Nat.reduceAdd, Nat.reduceLeDiff, zbb, zas, zat, one, zau, zaw, zav, splice, zaj, zak, zab, zaa, ycs, yct, ycu, ycv, ycw, ycx, ycy, ycz, zan, zai, zax, zay, and_self, true_and, and_true, lenV, yda, Nat.le_refl, if_true, ydq, ydr, yds, ne_eq, not_true_eq_false, not_false_eq_true, ← decide_not, Decidable.not_not, ydt, ydu, ydz, ydv, ydw, List.drop_zero, eq_self, Bool.false_eq_true, List.getElem?_toArray, yea, yeb, List.nil_append, List.cons_append, Bool.false_and, Int.reduceEq, Int.reduceLT, Int.reduceLE, Int.reduceNe, zbc, zbb, yec, yed, yee, yef, ydx, ydy, c1, g1, l1, yem, s2, s3, s4, s5, flags0]
      have fl0 : FlagOk t (List.replicate t.len.toNat false) 0 := by
        refine ⟨by rw [List.length_replicate]; omega, fun j => ⟨fun q => ?_, fun ⟨m, x, q, _⟩ => by omega⟩⟩
        rw [List.getElem?_replicate] at q
        split at q <;> simp at q
      have hL : hget (H1 ++ [some (⟨true, (List.replicate t.len.toNat false).map Value.bool⟩ : Blk)]) H1.length = some (⟨true, (List.replicate t.len.toNat false).map Value.bool⟩ : Blk) := ydu
      apply AW_loop_inv (fun k' e H2 => ∃ (i : Nat) (fl : List Bool), i + k' = t.cs.length ∧ e = [(1, .int .i64 k), (2, .int .i64 n), (3, .pointer (some ⟨H.length, 0, none⟩)), (8, .slice (some ⟨H1.length, 0, none⟩) t.len.toNat 1), (31, .slice a t.cs.length z), (32, .int .i64 (t.cs.length : Int)), (33, .int .i64 (i : Int))] ∧ Frm [] H1 H2 ∧ hget H2 H1.length = some (⟨true, fl.map Value.bool⟩ : Blk) ∧ FlagOk t fl i) _ t.cs.length
      · exact ⟨0, _, by omega, rfl, (Frm.refl _ _).push _, hL, fl0⟩
      · rintro k' e H2 ⟨i, fl, hik, rfl, hf, hfl, hF⟩
        have g2 := hf.gets g1
        have lb := hget_lt g2
        have lL := hget_lt hfl
        cases k' with
        | zero =>
          have g0 : ¬ (i : Int) < (t.cs.length : Int) := by omega
          simp only [↓yaa, ↓yab, ↓yac, ↓yad, ↓yae, ↓yaf, ↓yag, ↓yah, ↓yai, ↓ydb, ↓ydc, ↓ydd, ↓yde, ↓ydf, ↓ydg, ↓yao, ↓yap, ↓ydh, ↓ydi, ↓ydj, ↓ydk, ↓ydl, ↓ydm, ↓ydn, ↓ydo, ↓ydp, ↓yax, yay, yaz, yba, ybb, ybc, ybd, ybe, ybf, ybg, ybh, ybi, ybj, ybk, ybl, ybm, ybn, ybo, ybp, ybq, ybr, ybs, ybt, ybu, ybv, ares, tup, ybw, ybx, yby, argsE, dval, aop, ev, evs, evo, evp, fillL, addrOf, intOf?, ybz, yca, ycb, ycc, ycd, yce, ycf, zah, zag, reduceIte, Nat.reduceEqDiff, ycg, ych, yci, ycj, yck, ycl, ycm, ycn, yco, ycp, ycq, ycr, zap, zao, reduceCtorEq, zbb, zbc, zba, zaz, Nat.reduceAdd, Nat.reduceMul, zaq, zar, eqPtr, zae, zaf, zab, zaa, zac, zad, hload, hstore, zal, zam, Nat.reduceAdd, Nat.reduceLeDiff, zbb, zas, zat, one, zau, zaw, zav, splice, zaj, zak, zab, zaa, ycs, yct, ycu, ycv, ycw, ycx, ycy, ycz, zan, zai, zax, zay, and_self, true_and, and_true, lenV, yda, Nat.le_refl, if_true, ydq, ydr, yds, ne_eq, not_true_eq_false, not_false_eq_true, ← decide_not, Decidable.not_not, ydt, ydu, ydz, ydv, ydw, List.drop_zero, eq_self, Bool.false_eq_true, List.getElem?_toArray, yea, yeb, List.nil_append, List.cons_append, Bool.false_and, Int.reduceEq, Int.reduceLT, Int.reduceLE, Int.reduceNe, zbc, zbb, yec, yed, yee, yef, ydx, ydy, g0, g2, tk3, ls3]
          rw [← htv]
          refine f140 ((hG.frame0 f1).frame0 hf) hfew fun H3 f3 hq => ?_
          have g3 := f3.gets g2
          have hfl3 := f3.gets hfl
          have m0 : 0 ≤ t.len * n := Int.mul_nonneg (by omega) (by omega)
          have m1 : t.len * n ≤ 512 * 32 := Int.mul_le_mul (by omega) (by omega) (by omega) (by omega)
          have w1 : IntKind.i64.wrap (t.len * n) = t.len * n := wrap_i64 (by omega) (by omega)
          simp only [↓yaa, ↓yab, ↓yac, ↓yad, ↓yae, ↓yaf, ↓yag, ↓yah, ↓yai, ↓ydb, ↓ydc, ↓ydd, ↓yde, ↓ydf, ↓ydg, ↓yao, ↓yap, ↓ydh, ↓ydi, ↓ydj, ↓ydk, ↓ydl, ↓ydm, ↓ydn, ↓ydo, ↓ydp, ↓yax, yay, yaz, yba, ybb, ybc, ybd, ybe, ybf, ybg, ybh, ybi, ybj, ybk, ybl, ybm, ybn, ybo, ybp, ybq, ybr, ybs, ybt, ybu, ybv, ares, tup, ybw, ybx, yby, argsE, dval, aop, ev, evs, evo, evp, fillL, addrOf, intOf?, ybz, yca, ycb, ycc, ycd, yce, ycf, zah, zag, reduceIte, Nat.reduceEqDiff, ycg, ych, yci, ycj, yck, ycl, ycm, ycn, yco, ycp, ycq, ycr, zap, zao, reduceCtorEq, zbb, zbc, zba, zaz, Nat.reduceAdd, Nat.reduceMul, zaq, zar, eqPtr, zae, zaf, zab, zaa, zac, zad, hload, hstore, zal, zam, Nat.reduceAdd, Nat.reduceLeDiff, zbb, zas, zat, one, zau, zaw, zav, splice, zaj, zak, zab, zaa, ycs, yct, ycu, ycv, ycw, ycx, ycy, ycz, zan, zai, zax, zay, and_self, true_and, and_true, lenV, yda, Nat.le_refl, if_true, ydq, ydr, yds, ne_eq, not_true_eq_false, not_false_eq_true, ← decide_not, Decidable.not_not, ydt, ydu, ydz, ydv, ydw, List.drop_zero, eq_self, Bool.false_eq_true, List.getElem?_toArray, yea, yeb, List.nil_append, List.cons_append, Bool.false_and, Int.reduceEq, Int.reduceLT, Int.reduceLE, Int.reduceNe, zbc, zbb, yec, yed, yee, yef, ydx, ydy, g3, w1]
          apply AW_loop_inv (fun k' e H4 => ∃ r : Nat, (r : Int) + k' = t.len * n ∧ e = [(1, .int .i64 k), (2, .int .i64 n), (3, .pointer (some ⟨H.length, 0, none⟩)), (8, .slice (some ⟨H1.length, 0, none⟩) t.len.toNat 1), (13, .func (.func 156) #[] #[.pointer (some ⟨H2.length, 0, none⟩)]), (14, .int .i64 (t.cnt : Int)), (65, .int .i64 (t.len * n)), (66, .int .i64 (r : Int))] ∧ Frm [] H3 H4 ∧ ∀ r' : Nat, r' < r → t.due (k + (r' : Int)) n = false) _ (t.len * n).toNat
          · exact ⟨0, by omega, rfl, Frm.refl _ _, fun r' hr => by omega⟩
          · rintro k' e H4 ⟨r, hrk, rfl, hf4, hx⟩
            have ff4 := (ff.then hf).then (f3.then hf4)
            cases k' with
            | zero =>
              have g0 : ¬ (r : Int) < t.len * n := by omega
              simp only [↓yaa, ↓yab, ↓yac, ↓yad, ↓yae, ↓yaf, ↓yag, ↓yah, ↓yai, ↓ydb, ↓ydc, ↓ydd, ↓yde, ↓ydf, ↓ydg, ↓yao, ↓yap, ↓ydh, ↓ydi, ↓ydj, ↓ydk, ↓ydl, ↓ydm, ↓ydn, ↓ydo, ↓ydp, ↓yax, yay, yaz, yba, ybb, ybc, ybd, ybe, ybf, ybg, ybh, ybi, ybj, ybk, ybl, ybm, ybn, ybo, ybp, ybq, ybr, ybs, ybt, ybu, ybv, ares, tup, ybw, ybx, yby, argsE, dval, aop, ev, evs, evo, evp, fillL, addrOf, intOf?, ybz, yca, ycb, ycc, ycd, yce, ycf, zah, zag, reduceIte, Nat.reduceEqDiff, ycg, ych, yci, ycj, yck, ycl, ycm, ycn, yco, ycp, ycq, ycr, zap, zao, reduceCtorEq, zbb, zbc, zba, zaz, Nat.reduceAdd, Nat.reduceMul, zaq, zar, eqPtr, zae, zaf, zab, zaa, zac, zad, hload, hstore, zal, zam, Nat.reduceAdd, Nat.reduceLeDiff, zbb, zas, zat, one, zau, zaw, zav, splice, zaj, zak, zab, zaa, ycs, yct, ycu, ycv, ycw, ycx, ycy, ycz, zan, zai, zax, zay, and_self, true_and, and_true, lenV, yda, Nat.le_refl, if_true, ydq, ydr, yds, ne_eq, not_true_eq_false, not_false_eq_true, ← decide_not, Decidable.not_not, ydt, ydu, ydz, ydv, ydw, List.drop_zero, eq_self, Bool.false_eq_true, List.getElem?_toArray, yea, yeb, List.nil_append, List.cons_append, Bool.false_and, Int.reduceEq, Int.reduceLT, Int.reduceLE, Int.reduceNe, zbc, zbb, yec, yed, yee, yef, ydx, ydy, g0]
              exact hk _ _ _ ff4 ⟨fun q => absurd ⟨hok, hn, by omega⟩ q, fun _ => ⟨fun q => by simp at q, fun _ => ⟨rfl, fun r' hr => hx r' (by omega)⟩⟩⟩
            | succ k' =>
              have g0 : (r : Int) < t.len * n := by omega
              have w3 : IntKind.i64.wrap (k + (r : Int)) = k + (r : Int) := wrap_i64 (by omega) (by omega)
              have g3' : IntKind.i64.wrap ((r : Int) + 1) = ((r + 1 : Nat) : Int) := by rw [wrap_i64 (by omega) (by omega)]; omega
              have c2 : ¬ k + (r : Int) < 0 := by omega
              have gb := hf4.gets g3
              have gfl := hf4.gets hfl3
              have gq := hf4.gets hq
              have hne : ¬ t.len = 0 := by omega
              have hrem : binV .rem (.int .i64 (k + (r : Int))) (.int .i64 t.len) = some (.int .i64 ((k + (r : Int)).tmod t.len)) := binV_rem _ _ _ hne
              have r0 : 0 ≤ (k + (r : Int)).tmod t.len := Int.tmod_nonneg _ (by omega)
              have r1 : (k + (r : Int)).tmod t.len < t.len := Int.tmod_lt_of_pos _ (by omega)
              have r2 : (k + (r : Int)).tmod t.len < (t.len.toNat : Int) := by omega
              have hfa := flag_at hok (by omega) hF (k := k + (r : Int)) (by omega)
              obtain ⟨fv, hfv⟩ : ∃ fv, fl[((k + (r : Int)).tmod t.len).toNat]? = some fv := ⟨_, List.getElem?_eq_getElem (by have := hF.1; omega)⟩
              have hcell : (fl.map Value.bool)[((k + (r : Int)).tmod t.len).toNat]? = some (.bool fv) := by rw [List.getElem?_map, hfv]; rfl
              cases fv with
              | false =>
                have hd : t.due (k + (r : Int)) n = false := due_flag hok (by omega) (fun q => by have := hfa.2 q; rw [hfv] at this; simp at this)
                simp only [↓yaa, ↓yab, ↓yac, ↓yad, ↓yae, ↓yaf, ↓yag, ↓yah, ↓yai, ↓ydb, ↓ydc, ↓ydd, ↓yde, ↓ydf, ↓ydg, ↓yao, ↓yap, ↓ydh, ↓ydi, ↓ydj, ↓ydk, ↓ydl, ↓ydm, ↓ydn, ↓ydo, ↓ydp, ↓yax, yay, yaz, yba, ybb, ybc, ybd, ybe, ybf, ybg, ybh, ybi, ybj, ybk, ybl, ybm, ybn, ybo, ybp, ybq, ybr, ybs, ybt, ybu, ybv, ares, tup, ybw, ybx, yby, argsE, dval, aop, ev, evs, evo, evp, fillL, addrOf, intOf?, ybz, yca, ycb, ycc, ycd, yce, ycf, zah, zag, reduceIte, Nat.reduceEqDiff, ycg, ych, yci, ycj, yck, ycl, ycm, ycn, yco, ycp, ycq, ycr, zap, zao, reduceCtorEq, zbb, zbc, zba, zaz, Nat.reduceAdd, Nat.reduceMul, zaq, zar, eqPtr, zae, zaf, zab, zaa, zac, zad, hload, hstore, zal, zam, Nat.reduceAdd, Nat.reduceLeDiff, zbb, zas, zat, one, zau, zaw, zav, splice, zaj, zak, zab, zaa, ycs, yct, ycu, ycv, ycw, ycx, ycy, ycz, zan, zai, zax, zay, and_self, true_and, and_true, lenV, yda, Nat.le_refl, if_true, ydq, ydr, yds, ne_eq, not_true_eq_false, not_false_eq_true, ← decide_not, Decidable.not_not, ydt, ydu, ydz, ydv, ydw, List.drop_zero, eq_self, Bool.false_eq_true, List.getElem?_toArray, yea, yeb, List.nil_append, List.cons_append, Bool.false_and, Int.reduceEq, Int.reduceLT, Int.reduceLE, Int.reduceNe, zbc, zbb, yec, yed, yee, yef, ydx, ydy, g0, w3, c2, gb, hrem, r0, r2, gfl, Nat.mul_one, hcell, g3']
                refine ⟨k', by omega, r + 1, by omega, rfl, hf4, fun r' hr => ?_⟩
                by_cases e : r' = r
                · subst e; exact hd
                · exact hx r' (by omega)
              | true =>
                obtain ⟨hex, hd⟩ := due_flag2 hok (by omega) hn (hfa.1 hfv)
                have happ : ∀ v w : Value, (#[] : Array Value).toList ++ [v] ++ (#[w] : Array Value).toList = [v, w] := fun _ _ => rfl
                simp only [↓yaa, ↓yab, ↓yac, ↓yad, ↓yae, ↓yaf, ↓yag, ↓yah, ↓yai, ↓ydb, ↓ydc, ↓ydd, ↓yde, ↓ydf, ↓ydg, ↓yao, ↓yap, ↓ydh, ↓ydi, ↓ydj, ↓ydk, ↓ydl, ↓ydm, ↓ydn, ↓ydo, ↓ydp, ↓yax, yay, yaz, yba, ybb, ybc, ybd, ybe, ybf, ybg, ybh, ybi, ybj, ybk, ybl, ybm, ybn, ybo, ybp, ybq, ybr, ybs, ybt, ybu, ybv, ares, tup, ybw, ybx, yby, argsE, dval, aop, ev, evs, evo, evp, fillL, addrOf, intOf?, ybz, yca, ycb, ycc, ycd, yce, ycf, zah, zag, reduceIte, Nat.reduceEqDiff, ycg, ych, yci, ycj, yck, ycl, ycm, ycn, yco, ycp, ycq, ycr, zap, zao, reduceCtorEq, zbb, zbc, zba, zaz, Nat.reduceAdd, Nat.reduceMul, zaq, zar, eqPtr, zae, zaf, zab, zaa, zac, zad, hload, hstore, zal, zam, Nat.reduceAdd, Nat.reduceLeDiff, zbb, zas, zat, one, zau, zaw, zav, splice, zaj, zak, zab, zaa, ycs, yct, ycu, ycv, ycw, ycx, ycy, ycz, zan, zai, zax, zay, and_self, true_and, and_true, lenV, yda, Nat.le_refl, if_true, ydq, ydr, yds, ne_eq, not_true_eq_false, not_false_eq_true, ← decide_not, Decidable.not_not, ydt, ydu, ydz, ydv, ydw, List.drop_zero, eq_self, Bool.false_eq_true, List.getElem?_toArray, yea, yeb, List.nil_append, List.cons_append, Bool.false_and, Int.reduceEq, Int.reduceLT, Int.reduceLE, Int.reduceNe, zbc, zbb, yec, yed, yee, yef, ydx, ydy, g0, w3, c2, gb, hrem, r0, r2, gfl, Nat.mul_one, hcell, happ]
                refine f156 (((hG.frame0 f1).frame0 hf).frame0 (f3.then hf4)) hok gq fun H5 m f f5 hf5 hm5 hle => ?_
                have hmb := hm5 (hf5.2 hex)
                subst hmb
                have hcnt : t.cnt ≤ 512 := Nat.le_trans List.countP_le_length hok.few
                obtain ⟨x1, x2, x3⟩ := turn_wrap (k := k + (r : Int)) (by omega) (by omega) hl.1 hn hcnt hle
                have hquo : binV .quo (.int .i64 (k + (r : Int))) (.int .i64 t.len) = some (.int .i64 ((k + (r : Int)).tdiv t.len)) := by rw [binV_quo _ _ _ hne, x1]
                have hr : ∀ x, binV .rem (.int .i64 x) (.int .i64 n) = some (.int .i64 (x.tmod n)) := fun x => binV_rem _ _ _ (by omega)
                have gb5 := f5.gets gb
                have ff5 := ff4.then f5
                by_cases c3 : (((k + (r : Int)).tdiv t.len).tmod n * (t.cnt : Int) + (t.bef ((k + (r : Int)).tmod t.len) : Int)).tmod n = t.node.tmod n
                · have c3' := eq_true c3
                  rw [decide_eq_true c3] at hd
                  simp only [↓yaa, ↓yab, ↓yac, ↓yad, ↓yae, ↓yaf, ↓yag, ↓yah, ↓yai, ↓ydb, ↓ydc, ↓ydd, ↓yde, ↓ydf, ↓ydg, ↓yao, ↓yap, ↓ydh, ↓ydi, ↓ydj, ↓ydk, ↓ydl, ↓ydm, ↓ydn, ↓ydo, ↓ydp, ↓yax, yay, yaz, yba, ybb, ybc, ybd, ybe, ybf, ybg, ybh, ybi, ybj, ybk, ybl, ybm, ybn, ybo, ybp, ybq, ybr, ybs, ybt, ybu, ybv, ares, tup, ybw, ybx, yby, argsE, dval, aop, ev, evs, evo, evp, fillL, addrOf, intOf?, ybz, yca, ycb, ycc, ycd, yce, ycf, zah, zag, reduceIte, Nat.reduceEqDiff, ycg, ych, yci, ycj, yck, ycl, ycm, ycn, yco, ycp, ycq, ycr, zap, zao, reduceCtorEq, zbb, zbc, zba, zaz, Nat.reduceAdd, Nat.reduceMul, zaq, zar, eqPtr, zae, zaf, zab, zaa, zac, zad, hload, hstore, zal, zam, Nat.reduceAdd, Nat.reduceLeDiff, zbb, zas, zat, one, zau, zaw, zav, splice, zaj, zak, zab, zaa, ycs, yct, ycu, ycv, ycw, ycx, ycy, ycz, zan, zai, zax, zay, and_self, true_and, and_true, lenV, yda, Nat.le_refl, if_true, ydq, ydr, yds, ne_eq, not_true_eq_false, not_false_eq_true, ← decide_not, Decidable.not_not, ydt, ydu, ydz, ydv, ydw, List.drop_zero, eq_self, Bool.false_eq_true, List.getElem?_toArray, yea, yeb, List.nil_append, List.cons_append, Bool.false_and, Int.reduceEq, Int.reduceLT, Int.reduceLE, Int.reduceNe, zbc, zbb, yec, yed, yee, yef, ydx, ydy, gb5, hquo, hr, x2, x3, c3']
                  exact hk _ _ _ ff5 ⟨fun q => absurd ⟨hok, hn, by omega⟩ q, fun _ => ⟨fun _ => ⟨r, by omega, rfl, hd, hx⟩, fun q => by simp at q⟩⟩
                · have c3' := eq_false c3
                  rw [decide_eq_false c3] at hd
                  simp only [↓yaa, ↓yab, ↓yac, ↓yad, ↓yae, ↓yaf, ↓yag, ↓yah, ↓yai, ↓ydb, ↓ydc, ↓ydd, ↓yde, ↓ydf, ↓ydg, ↓yao, ↓yap, ↓ydh, ↓ydi, ↓ydj, ↓ydk, ↓ydl, ↓ydm, ↓ydn, ↓ydo, ↓ydp, ↓yax, yay, yaz, yba, ybb, ybc, ybd, ybe, ybf, ybg, ybh, ybi, ybj, ybk, ybl, ybm, ybn, ybo, ybp, ybq, ybr, ybs, ybt, ybu, ybv, ares, tup, ybw, ybx, yby, argsE, dval, aop, ev, evs, evo, evp, fillL, addrOf, intOf?, ybz, yca, ycb, ycc, ycd, yce, ycf, zah, zag, reduceIte, Nat.reduceEqDiff, ycg, ych, yci, ycj, yck, ycl, ycm, ycn, yco, ycp, ycq, ycr, zap, zao, reduceCtorEq, zbb, zbc, zba, zaz, Nat.reduceAdd, Nat.reduceMul, zaq, zar, eqPtr, zae, zaf, zab, zaa, zac, zad, hload, hstore, zal, zam, Nat.reduceAdd, Nat.reduceLeDiff, zbb, zas, zat, one, zau, zaw, zav, splice, zaj, zak, zab, zaa, ycs, yct, ycu, ycv, ycw, ycx, ycy, ycz, zan, zai, zax, zay, and_self, true_and, and_true, lenV, yda, Nat.le_refl, if_true, ydq, ydr, yds, ne_eq, not_true_eq_false, not_false_eq_true, ← decide_not, Decidable.not_not, ydt, ydu, ydz, ydv, ydw, List.drop_zero, eq_self, Bool.false_eq_true, List.getElem?_toArray, yea, yeb, List.nil_append, List.cons_append, Bool.false_and, Int.reduceEq, Int.reduceLT, Int.reduceLE, Int.reduceNe, zbc, zbb, yec, yed, yee, yef, ydx, ydy, gb5, hquo, hr, x2, x3, c3', g3']
                  refine ⟨k', by omega, r + 1, by omega, rfl, hf4.then f5, fun r' hr => ?_⟩
                  by_cases e : r' = r
                  · subst e; exact hd
                  · exact hx r' (by omega)
        | succ k' =>
          obtain ⟨x, hix⟩ : ∃ x, t.cs[i]? = some x := ⟨_, List.getElem?_eq_getElem (by omega)⟩
          obtain ⟨b, o, w, cs, rfl, rfl, q1, q2, q3, q4⟩ := ((hG.frame0 f1).frame0 hf) i x hix
          have hT := (hG.frame0 f1).frame0 hf
          have hfm := hok.form i x hix
          have g0 : (i : Int) < (t.cs.length : Int) := by omega
          have gi : (0 : Int) ≤ (i : Int) := by omega
          have g3 : IntKind.i64.wrap ((i : Int) + 1) = ((i + 1 : Nat) : Int) := by rw [wrap_i64 (by omega) (by omega)]; omega
          have fx := (Frm.refl [] H2).push (some (⟨true, [.int .i64 x.s, .int .i64 x.c, .int .i64 x.w, .bool x.b, .int .i64 x.p, .int .i64 x.n]⟩ : Blk))
          have gx : hget (H2 ++ [some (⟨true, [.int .i64 x.s, .int .i64 x.c, .int .i64 x.w, .bool x.b, .int .i64 x.p, .int .i64 x.n]⟩ : Blk)]) H2.length = some (⟨true, [.int .i64 x.s, .int .i64 x.c, .int .i64 x.w, .bool x.b, .int .i64 x.p, .int .i64 x.n]⟩ : Blk) := ydu
          have gt := fx.gets g2
          have gfl := fx.gets hfl
          have hTx := hT.frame0 fx
          simp only [↓yaa, ↓yab, ↓yac, ↓yad, ↓yae, ↓yaf, ↓yag, ↓yah, ↓yai, ↓ydb, ↓ydc, ↓ydd, ↓yde, ↓ydf, ↓ydg, ↓yao, ↓yap, ↓ydh, ↓ydi, ↓ydj, ↓ydk, ↓ydl, ↓ydm, ↓ydn, ↓ydo, ↓ydp, ↓yax, yay, yaz, yba, ybb, ybc, ybd, ybe, ybf, ybg, ybh, ybi, ybj, ybk, ybl, ybm, ybn, ybo, ybp, ybq, ybr, ybs, ybt, ybu, ybv, ares, tup, ybw, ybx, yby, argsE, dval, aop, ev, evs, evo, evp, fillL, addrOf, intOf?, ybz, yca, ycb, ycc, ycd, yce, ycf, zah, zag, reduceIte, Nat.reduceEqDiff, ycg, ych, yci, ycj, yck, ycl, ycm, ycn, yco, ycp, ycq, ycr, zap, zao, reduceCtorEq, zbb, zbc, zba, zaz, Nat.reduceAdd, Nat.reduceMul, zaq, zar, eqPtr, zae, zaf, zab, zaa, zac, zad, hload, hstore, zal, zam, Nat.reduceAdd, Nat.reduceLeDiff, zbb, zas, zat, one, zau, zaw, zav, splice, zaj, zak, zab, zaa, ycs, yct, ycu, ycv, ycw, ycx, ycy, ycz, zan, zai, zax, zay, and_self, true_and, and_true, lenV, yda, Nat.le_refl, if_true, ydq, ydr, yds, ne_eq, not_true_eq_false, not_false_eq_true, ← decide_not, Decidable.not_not, ydt, ydu, ydz, ydv, ydw, List.drop_zero, eq_self, Bool.false_eq_true, List.getElem?_toArray, yea, yeb, List.nil_append, List.cons_append, Bool.false_and, Int.reduceEq, Int.reduceLT, Int.reduceLE, Int.reduceNe, zbc, zbb, yec, yed, yee, yef, ydx, ydy, g0, gi, Int.toNat_natCast, q1, q2, q3, tk6, ls6, sz6]
          generalize H2 ++ [some (⟨true, [.int .i64 x.s, .int .i64 x.c, .int .i64 x.w, .bool x.b, .int .i64 x.p, .int .i64 x.n]⟩ : Blk)] = G3 at *
          simp only [↓yaa, ↓yab, ↓yac, ↓yad, ↓yae, ↓yaf, ↓yag, ↓yah, ↓yai, ↓ydb, ↓ydc, ↓ydd, ↓yde, ↓ydf, ↓ydg, ↓yao, ↓yap, ↓ydh, ↓ydi, ↓ydj, ↓ydk, ↓ydl, ↓ydm, ↓ydn, ↓ydo, ↓ydp, ↓yax, yay, yaz, yba, ybb, ybc, ybd, ybe, ybf, ybg, ybh, ybi, ybj, ybk, ybl, ybm, ybn, ybo, ybp, ybq, ybr, ybs, ybt, ybu, ybv, ares, tup, ybw, ybx, yby, argsE, dval, aop, ev, evs, evo, evp, fillL, addrOf, intOf?, ybz, yca, ycb, ycc, ycd, yce, ycf, zah, zag, reduceIte, Nat.reduceEqDiff, ycg, ych, yci, ycj, yck, ycl, ycm, ycn, yco, ycp, ycq, ycr, zap, zao, reduceCtorEq, zbb, zbc, zba, zaz, Nat.reduceAdd, Nat.reduceMul, zaq, zar, eqPtr, zae, zaf, zab, zaa, zac, zad, hload, hstore, zal, zam, Nat.reduceAdd, Nat.reduceLeDiff, zbb, zas, zat, one, zau, zaw, zav, splice, zaj, zak, zab, zaa, ycs, yct, ycu, ycv, ycw, ycx, ycy, ycz, zan, zai, zax, zay, and_self, true_and, and_true, lenV, yda, Nat.le_refl, if_true, ydq, ydr, yds, ne_eq, not_true_eq_false, not_false_eq_true, ← decide_not, Decidable.not_not, ydt, ydu, ydz, ydv, ydw, List.drop_zero, eq_self, Bool.false_eq_true, List.getElem?_toArray, yea, yeb, List.nil_append, List.cons_append, Bool.false_and, Int.reduceEq, Int.reduceLT, Int.reduceLE, Int.reduceNe, zbc, zbb, yec, yed, yee, yef, ydx, ydy, gt, gx, tk3, ls3]
          rw [← htv]
          refine f142 hTx fun H4 f4 => ?_
          rw [atv_e]
          obtain ⟨y, hy⟩ : ∃ y, y = (t.at x.s).getD zeroTC := ⟨_, rfl⟩
          rw [← hy]
          have f5 := f4.push (some (⟨true, [.int .i64 y.s, .int .i64 y.c, .int .i64 y.w, .bool y.b, .int .i64 y.p, .int .i64 y.n]⟩ : Blk))
          have gx5 := f5.gets gx
          have gfl5 := f5.gets gfl
          have gy5 : hget (H4 ++ [some (⟨true, [.int .i64 y.s, .int .i64 y.c, .int .i64 y.w, .bool y.b, .int .i64 y.p, .int .i64 y.n]⟩ : Blk)]) H4.length = some (⟨true, [.int .i64 y.s, .int .i64 y.c, .int .i64 y.w, .bool y.b, .int .i64 y.p, .int .i64 y.n]⟩ : Blk) := ydu
          have fA := (hf.then fx).then f5
          simp only [↓yaa, ↓yab, ↓yac, ↓yad, ↓yae, ↓yaf, ↓yag, ↓yah, ↓yai, ↓ydb, ↓ydc, ↓ydd, ↓yde, ↓ydf, ↓ydg, ↓yao, ↓yap, ↓ydh, ↓ydi, ↓ydj, ↓ydk, ↓ydl, ↓ydm, ↓ydn, ↓ydo, ↓ydp, ↓yax, yay, yaz, yba, ybb, ybc, ybd, ybe, ybf, ybg, ybh, ybi, ybj, ybk, ybl, ybm, ybn, ybo, ybp, ybq, ybr, ybs, ybt, ybu, ybv, ares, tup, ybw, ybx, yby, argsE, dval, aop, ev, evs, evo, evp, fillL, addrOf, intOf?, ybz, yca, ycb, ycc, ycd, yce, ycf, zah, zag, reduceIte, Nat.reduceEqDiff, ycg, ych, yci, ycj, yck, ycl, ycm, ycn, yco, ycp, ycq, ycr, zap, zao, reduceCtorEq, zbb, zbc, zba, zaz, Nat.reduceAdd, Nat.reduceMul, zaq, zar, eqPtr, zae, zaf, zab, zaa, zac, zad, hload, hstore, zal, zam, Nat.reduceAdd, Nat.reduceLeDiff, zbb, zas, zat, one, zau, zaw, zav, splice, zaj, zak, zab, zaa, ycs, yct, ycu, ycv, ycw, ycx, ycy, ycz, zan, zai, zax, zay, and_self, true_and, and_true, lenV, yda, Nat.le_refl, if_true, ydq, ydr, yds, ne_eq, not_true_eq_false, not_false_eq_true, ← decide_not, Decidable.not_not, ydt, ydu, ydz, ydv, ydw, List.drop_zero, eq_self, Bool.false_eq_true, List.getElem?_toArray, yea, yeb, List.nil_append, List.cons_append, Bool.false_and, Int.reduceEq, Int.reduceLT, Int.reduceLE, Int.reduceNe, zbc, zbb, yec, yed, yee, yef, ydx, ydy, sz6, tk6, ls6]
          generalize H4 ++ [some (⟨true, [.int .i64 y.s, .int .i64 y.c, .int .i64 y.w, .bool y.b, .int .i64 y.p, .int .i64 y.n]⟩ : Blk)] = G5 at *
          have hat : (t.at x.s = some x) ↔ (y.s = x.s ∧ y.c = x.c ∧ y.w = x.w ∧ y.b = x.b ∧ y.p = x.p ∧ y.n = x.n) := by
            have hsome : ∃ u, t.at x.s = some u := by
              rw [at_eq hok hfm.2.2.2.1.1]
              cases hh : t.cs.find? (fun u => decide (u.s = x.s.tmod t.len)) with
              | some u => exact ⟨u, rfl⟩
              | none =>
                rw [List.find?_eq_none] at hh
                have := hh x (List.mem_of_getElem? hix)
                rw [Int.tmod_eq_of_lt hfm.2.2.2.1.1 hfm.2.2.2.1.2] at this
                simp at this
            obtain ⟨u, hu⟩ := hsome
            rw [hu] at hy ⊢
            simp only [Option.getD_some] at hy
            subst hy
            cases y; cases x
            simp
          have lf : (fl.length : Int) = t.len := hF.1
          have stay : ¬ (t.at x.s = some x ∧ x.w = 3) → FlagOk t fl (i + 1) := fun q => ⟨hF.1, fun j => by
            rw [hF.2]
            refine ⟨fun ⟨m, u, p1, p2⟩ => ⟨m, u, by omega, p2⟩, fun ⟨m, u, p1, p2, p3, p4, p5⟩ => ⟨m, u, ?_, p2, p3, p4, p5⟩⟩
            by_cases e : m = i
            · subst e; rw [hix] at p2; injection p2 with p2; subst p2; exact absurd ⟨p3, p4⟩ q
            · omega⟩
          by_cases c2 : y.s = x.s ∧ y.c = x.c ∧ y.w = x.w ∧ y.b = x.b ∧ y.p = x.p ∧ y.n = x.n
          · have c2' := eq_true c2
            have hax := hat.2 c2
            by_cases c3 : x.w = 3
            · have c3' := eq_true c3
              have i0 : 0 ≤ x.s := hfm.2.2.2.1.1
              have i1 : x.s < (t.len.toNat : Int) := by have := hfm.2.2.2.1.2; omega
              have i2 : x.s.toNat + 1 ≤ fl.length := by have := hfm.2.2.2.1.2; omega
              simp only [↓yaa, ↓yab, ↓yac, ↓yad, ↓yae, ↓yaf, ↓yag, ↓yah, ↓yai, ↓ydb, ↓ydc, ↓ydd, ↓yde, ↓ydf, ↓ydg, ↓yao, ↓yap, ↓ydh, ↓ydi, ↓ydj, ↓ydk, ↓ydl, ↓ydm, ↓ydn, ↓ydo, ↓ydp, ↓yax, yay, yaz, yba, ybb, ybc, ybd, ybe, ybf, ybg, ybh, ybi, ybj, ybk, ybl, ybm, ybn, ybo, ybp, ybq, ybr, ybs, ybt, ybu, ybv, ares, tup, ybw, ybx, yby, argsE, dval, aop, ev, evs, evo, evp, fillL, addrOf, intOf?, ybz, yca, ycb, ycc, ycd, yce, ycf, zah, zag, reduceIte, Nat.reduceEqDiff, ycg, ych, yci, ycj, yck, ycl, ycm, ycn, yco, ycp, ycq, ycr, zap, zao, reduceCtorEq, zbb, zbc, zba, zaz, Nat.reduceAdd, Nat.reduceMul, zaq, zar, eqPtr, zae, zaf, zab, zaa, zac, zad, hload, hstore, zal, zam, Nat.reduceAdd, Nat.reduceLeDiff, zbb, zas, zat, one, zau, zaw, zav, splice, zaj, zak, zab, zaa, ycs, yct, ycu, ycv, ycw, ycx, ycy, ycz, zan, zai, zax, zay, and_self, true_and, and_true, lenV, yda, Nat.le_refl, if_true, ydq, ydr, yds, ne_eq, not_true_eq_false, not_false_eq_true, ← decide_not, Decidable.not_not, ydt, ydu, ydz, ydv, ydw, List.drop_zero, eq_self, Bool.false_eq_true, List.getElem?_toArray, yea, yeb, List.nil_append, List.cons_append, Bool.false_and, Int.reduceEq, Int.reduceLT, Int.reduceLE, Int.reduceNe, zbc, zbb, yec, yed, yee, yef, ydx, ydy, gy5, gx5, eqs6, sz6, tk6, ls6, c2', c3', i0, i1, gfl5, List.length_map, Nat.mul_one, i2, g3]
              refine ⟨k', by omega, i + 1, fl.set x.s.toNat true, by omega, rfl, fA.set _ (.inr (by omega)), ?_, ?_⟩
              · rw [yen (hget_lt gfl5), List.map_set]
              · refine ⟨by rw [zan]; exact lf, fun j => ?_⟩
                rw [List.getElem?_set]
                by_cases e : x.s.toNat = j
                · subst e
                  rw [if_pos rfl, if_pos (by omega)]
                  exact ⟨fun _ => ⟨i, x, by omega, hix, hax, c3, by omega⟩, fun _ => rfl⟩
                · rw [if_neg e, hF.2]
                  refine ⟨fun ⟨m, u, p1, p2⟩ => ⟨m, u, by omega, p2⟩, fun ⟨m, u, p1, p2, p3, p4, p5⟩ => ⟨m, u, ?_, p2, p3, p4, p5⟩⟩
                  by_cases e2 : m = i
                  · subst e2; rw [hix] at p2; injection p2 with p2; subst p2; omega
                  · omega
            · have c3' := eq_false c3
              simp only [↓yaa, ↓yab, ↓yac, ↓yad, ↓yae, ↓yaf, ↓yag, ↓yah, ↓yai, ↓ydb, ↓ydc, ↓ydd, ↓yde, ↓ydf, ↓ydg, ↓yao, ↓yap, ↓ydh, ↓ydi, ↓ydj, ↓ydk, ↓ydl, ↓ydm, ↓ydn, ↓ydo, ↓ydp, ↓yax, yay, yaz, yba, ybb, ybc, ybd, ybe, ybf, ybg, ybh, ybi, ybj, ybk, ybl, ybm, ybn, ybo, ybp, ybq, ybr, ybs, ybt, ybu, ybv, ares, tup, ybw, ybx, yby, argsE, dval, aop, ev, evs, evo, evp, fillL, addrOf, intOf?, ybz, yca, ycb, ycc, ycd, yce, ycf, zah, zag, reduceIte, Nat.reduceEqDiff, ycg, ych, yci, ycj, yck, ycl, ycm, ycn, yco, ycp, ycq, ycr, zap, zao, reduceCtorEq, zbb, zbc, zba, zaz, Nat.reduceAdd, Nat.reduceMul, zaq, zar, eqPtr, zae, zaf, zab, zaa, zac, zad, hload, hstore, zal, zam, Nat.reduceAdd, Nat.reduceLeDiff, zbb, zas, zat, one, zau, zaw, zav, splice, zaj, zak, zab, zaa, ycs, yct, ycu, ycv, ycw, ycx, ycy, ycz, zan, zai, zax, zay, and_self, true_and, and_true, lenV, yda, Nat.le_refl, if_true, ydq, ydr, yds, ne_eq, not_true_eq_false, not_false_eq_true, ← decide_not, Decidable.not_not, ydt, ydu, ydz, ydv, ydw, List.drop_zero, eq_self, Bool.false_eq_true, List.getElem?_toArray, yea, yeb, List.nil_append, List.cons_append, Bool.false_and, Int.reduceEq, Int.reduceLT, Int.reduceLE, Int.reduceNe, zbc, zbb, yec, yed, yee, yef, ydx, ydy, gy5, gx5, eqs6, sz6, tk6, ls6, c2', c3', g3]
              exact ⟨k', by omega, i + 1, fl, by omega, rfl, fA, gfl5, stay (fun q => c3 q.2)⟩
          · have c2' := eq_false c2
            simp only [↓yaa, ↓yab, ↓yac, ↓yad, ↓yae, ↓yaf, ↓yag, ↓yah, ↓yai, ↓ydb, ↓ydc, ↓ydd, ↓yde, ↓ydf, ↓ydg, ↓yao, ↓yap, ↓ydh, ↓ydi, ↓ydj, ↓ydk, ↓ydl, ↓ydm, ↓ydn, ↓ydo, ↓ydp, ↓yax, yay, yaz, yba, ybb, ybc, ybd, ybe, ybf, ybg, ybh, ybi, ybj, ybk, ybl, ybm, ybn, ybo, ybp, ybq, ybr, ybs, ybt, ybu, ybv, ares, tup, ybw, ybx, yby, argsE, dval, aop, ev, evs, evo, evp, fillL, addrOf, intOf?, ybz, yca, ycb, ycc, ycd, yce, ycf, zah, zag, reduceIte, Nat.reduceEqDiff, ycg, ych, yci, ycj, yck, ycl, ycm, ycn, yco, ycp, ycq, ycr, zap, zao, reduceCtorEq, zbb, zbc, zba, zaz, Nat.reduceAdd, Nat.reduceMul, zaq, zar, eqPtr, zae, zaf, zab, zaa, zac, zad, hload, hstore, zal, zam, Nat.reduceAdd, Nat.reduceLeDiff, zbb, zas, zat, one, zau, zaw, zav, splice, zaj, zak, zab, zaa, ycs, yct, ycu, ycv, ycw, ycx, ycy, ycz, zan, zai, zax, zay, and_self, true_and, and_true, lenV, yda, Nat.le_refl, if_true, ydq, ydr, yds, ne_eq, not_true_eq_false, not_false_eq_true, ← decide_not, Decidable.not_not, ydt, ydu, ydz, ydv, ydw, List.drop_zero, eq_self, Bool.false_eq_true, List.getElem?_toArray, yea, yeb, List.nil_append, List.cons_append, Bool.false_and, Int.reduceEq, Int.reduceLT, Int.reduceLE, Int.reduceNe, zbc, zbb, yec, yed, yee, yef, ydx, ydy, gy5, gx5, eqs6, sz6, tk6, ls6, c2', g3]
            exact ⟨k', by omega, i + 1, fl, by omega, rfl, fA, gfl5, stay (fun q => c2 (hat.1 q.1))⟩

end Go.Proofs.Ytejcabdejoameaa.AI

/- Shared slots and their ranks. -/
set_option linter.unusedSimpArgs false
set_option linter.unusedVariables false
set_option maxHeartbeats 2000000
namespace Go.Proofs.Ytejcabdejoameaa.AI
open Go

structure SS (ss : List Int) : Prop where
  sorted : ss.Pairwise (· < ·)
  rng : ∀ s ∈ ss, 0 ≤ s ∧ s < 12
  len : ss.length ≤ 512
def TbS (nd : Int) (ss : List Int) : Tb := ⟨nd, 12, ss.map shrC⟩
theorem SS.ok {ss : List Int} (h : SS ss) {nd : Int} (hn : 0 ≤ nd ∧ nd < 32) : (TbS nd ss).Ok := by
  refine ⟨hn, ⟨by show (1 : Int) ≤ 12; decide, by show (12 : Int) ≤ 512; decide⟩, by simpa [TbS] using h.len, fun i x hx => ?_, fun i x y hx hy => ?_⟩
  · simp only [TbS, List.getElem?_map, Option.map_eq_some_iff] at hx
    obtain ⟨s, hs, rfl⟩ := hx
    have := h.rng s (List.mem_of_getElem? hs)
    show (1 ≤ (3 : Int) ∧ (3 : Int) ≤ 3) ∧ ((3 : Int) = 1 ∨ (-1 : Int) = -1) ∧ ((3 : Int) = 3 → (-1 : Int) = -1 ∧ false = false) ∧ (0 ≤ s ∧ s < 12) ∧ (0 ≤ (0 : Int) ∧ (0 : Int) < 16) ∧ ((3 : Int) = 3 ∨ ((0 ≤ (-1 : Int) ∧ (-1 : Int) < 32) ∧ (-1 : Int) ≠ nd)) ∧ ((3 : Int) = 1 → 0 ≤ (-1 : Int))
    exact ⟨by decide, by decide, by decide, this, by decide, .inl rfl, by decide⟩
  · simp only [TbS, List.getElem?_map, Option.map_eq_some_iff] at hx hy
    obtain ⟨s, hs, rfl⟩ := hx
    obtain ⟨s', hs', rfl⟩ := hy
    have h1 := (List.getElem?_eq_some_iff.1 hs)
    have h2 := (List.getElem?_eq_some_iff.1 hs')
    have := List.pairwise_iff_getElem.1 h.sorted i (i + 1) h1.1 h2.1 (by omega)
    rw [h1.2, h2.2] at this
    exact .inl this

/-- A slot that is put among others. -/
theorem SS.put {ss : List Int} (h : SS ss) (hl : ss.length < 512) {x : Int} (hx : 0 ≤ x ∧ x < 12) {i : Nat} (hi : i ≤ ss.length) (h1 : ∀ (m : Nat) (s : Int), m < i → ss[m]? = some s → s < x) (h2 : ∀ s, ss[i]? = some s → x < s) : SS (ss.take i ++ [x] ++ ss.drop i) := by
  have hs := h.sorted
  rw [← List.take_append_drop i ss, List.pairwise_append] at hs
  refine ⟨?_, fun s hs => ?_, by simp; omega⟩
  · rw [List.append_assoc, List.pairwise_append]
    refine ⟨hs.1, ?_, ?_⟩
    · rw [List.singleton_append, List.pairwise_cons]
      refine ⟨fun y hy => ?_, hs.2.1⟩
      obtain ⟨m, hm, rfl⟩ := List.getElem_of_mem hy
      rw [List.length_drop] at hm
      rw [List.getElem_drop]
      have hii : i < ss.length := by omega
      have h3 := h2 _ (List.getElem?_eq_getElem hii)
      by_cases e : m = 0
      · subst e; simpa using h3
      · have := List.pairwise_iff_getElem.1 h.sorted i (i + m) hii (by omega) (by omega)
        omega
    · intro a ha b hb
      have hax : a < x := by
        obtain ⟨m, hm, rfl⟩ := List.getElem_of_mem ha
        rw [List.length_take] at hm
        rw [List.getElem_take]
        exact h1 m _ (by omega) (List.getElem?_eq_getElem (by omega))
      rcases List.mem_append.1 hb with hb | hb
      · rw [List.mem_singleton] at hb; subst hb; exact hax
      · exact hs.2.2 a ha b hb
  · rcases List.mem_append.1 hs with hs | hs
    · rcases List.mem_append.1 hs with hs | hs
      · exact h.rng s (List.mem_of_mem_take hs)
      · rw [List.mem_singleton] at hs; subst hs; exact hx
    · exact h.rng s (List.mem_of_mem_drop hs)

def below (ss : List Int) (key : Int) : Nat := ss.countP fun s => decide (s < key)
theorem below_succ : ∀ {ss : List Int}, ss.Pairwise (· < ·) → ∀ key, below ss (key + 1) = below ss key + (if key ∈ ss then 1 else 0) := by
  intro ss
  induction ss with
  | nil => intro _ key; rfl
  | cons s ss ih =>
    intro h key
    rw [List.pairwise_cons] at h
    have hi := ih h.2 key
    unfold below at hi ⊢
    simp only [List.countP_cons, List.mem_cons]
    by_cases c1 : s < key
    · have c2 : s < key + 1 := by omega
      have c3 : ¬ key = s := by omega
      simp only [c1, c2, c3, zbb, if_true, false_or]; omega
    · by_cases c2 : s = key
      · subst c2
        have c4 : ¬ s ∈ ss := fun q => by have := h.1 s q; omega
        rw [if_neg c4] at hi
        have c5 : s < s + 1 := by omega
        simp only [c1, c5, zbb, zbc, if_true, true_or, Bool.false_eq_true, if_false]; omega
      · have c3 : ¬ s < key + 1 := by omega
        have c4 : ¬ key = s := fun q => c2 q.symm
        simp only [c1, c3, c4, zbc, Bool.false_eq_true, if_false, false_or]; omega
theorem below_zero {ss : List Int} (h : SS ss) : below ss 0 = 0 := by
  unfold below
  rw [List.countP_eq_zero]
  intro s hs
  have := h.rng s hs
  simp; omega
theorem below_all {ss : List Int} (h : SS ss) : below ss 12 = ss.length := by
  unfold below
  rw [List.countP_eq_length]
  intro s hs
  have := h.rng s hs
  simp; omega

/-- How many shared slots there are before a slot. -/
def rk (ss : List Int) (k : Int) : Int := k / 12 * (ss.length : Int) + (below ss (k % 12) : Int)
theorem rk_succ {ss : List Int} (h : SS ss) {k : Int} (hk : 0 ≤ k) : rk ss (k + 1) = rk ss k + (if k % 12 ∈ ss then 1 else 0) := by
  unfold rk
  have hb := below_succ h.sorted (k % 12)
  by_cases c : k % 12 = 11
  · have e1 : (k + 1) / 12 = k / 12 + 1 := by omega
    have e2 : (k + 1) % 12 = 0 := by omega
    rw [e1, e2, below_zero h, Int.add_mul, Int.one_mul]
    rw [c] at hb ⊢
    rw [show (11 : Int) + 1 = 12 by decide, below_all h] at hb
    by_cases q : (11 : Int) ∈ ss
    · rw [if_pos q] at hb ⊢; omega
    · rw [if_neg q] at hb ⊢; omega
  · have e1 : (k + 1) / 12 = k / 12 := by omega
    have e2 : (k + 1) % 12 = k % 12 + 1 := by omega
    rw [e1, e2, hb]
    split <;> omega
theorem rk_mono {ss : List Int} (h : SS ss) {k : Int} (hk : 0 ≤ k) : ∀ j : Nat, rk ss k ≤ rk ss (k + j) := by
  intro j
  induction j with
  | zero => simp
  | succ j ih =>
    have := rk_succ h (k := k + j) (by omega)
    rw [show k + ((j + 1 : Nat) : Int) = k + j + 1 by omega, this]
    split <;> omega
theorem rk_round {ss : List Int} (h : SS ss) {k n : Int} (hk : 0 ≤ k) : rk ss (k + 12 * n) = rk ss k + n * ss.length := by
  unfold rk
  rw [show (k + 12 * n) / 12 = k / 12 + n by omega, show (k + 12 * n) % 12 = k % 12 by omega, Int.add_mul]
  omega
/-- Each rank in between is that of a shared slot. -/
theorem rk_cover {ss : List Int} (h : SS ss) {k : Int} (hk : 0 ≤ k) : ∀ (j : Nat) (r : Int), rk ss k ≤ r → r < rk ss (k + j) → ∃ i : Nat, i < j ∧ (k + i) % 12 ∈ ss ∧ rk ss (k + i) = r := by
  intro j
  induction j with
  | zero => intro r h1 h2; simp at h2; omega
  | succ j ih =>
    intro r h1 h2
    by_cases c : r < rk ss (k + j)
    · obtain ⟨i, hi, h3⟩ := ih r h1 c
      exact ⟨i, by omega, h3⟩
    · have h4 := rk_succ h (k := k + j) (by omega)
      rw [show k + ((j + 1 : Nat) : Int) = k + j + 1 by omega, h4] at h2
      split at h2
      · rename_i hm
        exact ⟨j, by omega, hm, by omega⟩
      · omega
theorem ex_r {R nd n : Int} (hn : 1 ≤ n ∧ n ≤ 8) : ∃ r, R ≤ r ∧ r < R + n ∧ r % n = nd % n := by
  refine ⟨R + (nd - R) % n, ?_⟩
  rcases (by omega : n = 1 ∨ n = 2 ∨ n = 3 ∨ n = 4 ∨ n = 5 ∨ n = 6 ∨ n = 7 ∨ n = 8) with rfl | rfl | rfl | rfl | rfl | rfl | rfl | rfl <;> omega
theorem uniq_r {r s n : Int} (hn : 1 ≤ n ∧ n ≤ 8) (h : r % n = s % n) (h1 : r - s < n) (h2 : s - r < n) : r = s := by
  rcases (by omega : n = 1 ∨ n = 2 ∨ n = 3 ∨ n = 4 ∨ n = 5 ∨ n = 6 ∨ n = 7 ∨ n = 8) with rfl | rfl | rfl | rfl | rfl | rfl | rfl | rfl <;> omega

theorem cnt_S (nd : Int) (ss : List Int) : (TbS nd ss).cnt = ss.length := by
  unfold Tb.cnt TbS
  simp only
  rw [List.countP_map, List.countP_eq_length]
  intro s _; rfl
theorem bef_S (nd key : Int) (ss : List Int) : (TbS nd ss).bef key = below ss key := by
  unfold Tb.bef TbS below
  simp only
  rw [List.countP_map]
  congr 1
  funext s
  simp [bef3, shrC]
theorem hit_S {key : Int} {nd : Int} {ss : List Int} : (∃ x ∈ (TbS nd ss).cs, hit3 key x) ↔ key ∈ ss := by
  simp only [TbS, List.mem_map]
  constructor
  · rintro ⟨x, ⟨s, hs, rfl⟩, h⟩
    have : s = key := h.2
    rw [← this]; exact hs
  · intro h; exact ⟨shrC key, ⟨key, h, rfl⟩, rfl, rfl⟩
theorem mod_S {a c b n : Int} : (a % n * c + b) % n = (a * c + b) % n := by
  rw [Int.add_emod, Int.mul_emod, Int.emod_emod_of_dvd _ (Int.dvd_refl n), ← Int.mul_emod, ← Int.add_emod]
/-- Whose turn it is, by ranks. -/
theorem turn_S {nd : Int} {ss : List Int} (h : SS ss) (hn : 0 ≤ nd ∧ nd < 32) {k n : Int} (hk : 0 ≤ k) (hnn : 1 ≤ n ∧ n ≤ 8) : (TbS nd ss).turn k n = if k % 12 ∈ ss then (rk ss k % n, true) else (0, false) := by
  have e0 : k.tmod (TbS nd ss).len = k % 12 := Int.tmod_eq_emod_of_nonneg hk
  have e1 : k.tdiv (TbS nd ss).len = k / 12 := Int.tdiv_eq_ediv_of_nonneg hk
  have d0 : 0 ≤ k / 12 := by omega
  unfold Tb.turn
  rw [e0, e1]
  by_cases c : k % 12 ∈ ss
  · rw [if_pos ⟨⟨h.ok hn, hk, by omega, by omega⟩, hit_S.2 c⟩, if_pos c, cnt_S, bef_S, Int.tmod_eq_emod_of_nonneg d0]
    have m0 : 0 ≤ k / 12 % n := Int.emod_nonneg _ (by omega)
    have p0 : 0 ≤ k / 12 % n * (ss.length : Int) := Int.mul_nonneg m0 (by omega)
    rw [Int.tmod_eq_emod_of_nonneg (by omega), mod_S]
    rfl
  · rw [if_neg (fun q => c (hit_S.1 q.2)), if_neg c]
theorem due_S {nd : Int} {ss : List Int} (h : SS ss) (hn : 0 ≤ nd ∧ nd < 32) {k n : Int} (hk : 0 ≤ k) (hnn : 1 ≤ n ∧ n ≤ 8) : (TbS nd ss).due k n = decide (k % 12 ∈ ss ∧ rk ss k % n = nd % n) := by
  have ht := turn_S h hn hk hnn
  have e2 : (TbS nd ss).node.tmod n = nd % n := Int.tmod_eq_emod_of_nonneg hn.1
  by_cases c : k % 12 ∈ ss
  · rw [if_pos c] at ht
    have hat : ∃ x, (TbS nd ss).at k = some x ∧ x.w = 3 := by
      rw [at_eq (h.ok hn) hk]
      have e0 : k.tmod (TbS nd ss).len = k % 12 := Int.tmod_eq_emod_of_nonneg hk
      rw [e0]
      cases hf : (TbS nd ss).cs.find? (fun x => decide (x.s = k % 12)) with
      | none =>
        rw [List.find?_eq_none] at hf
        have := hf (shrC (k % 12)) (List.mem_map.2 ⟨_, c, rfl⟩)
        simp [shrC] at this
      | some x =>
        have hm := List.mem_of_find?_eq_some hf
        obtain ⟨s, _, rfl⟩ := List.mem_map.1 hm
        exact ⟨_, rfl, rfl⟩
    obtain ⟨x, h1, h2⟩ := hat
    unfold Tb.due
    rw [h1, ht, e2]
    simp [h2, c]
  · rw [if_neg c] at ht
    unfold Tb.due
    rw [ht]
    simp [c]

end Go.Proofs.Ytejcabdejoameaa.AI

/- Bytes as an argument. -/
set_option linter.unusedSimpArgs false
namespace Go.Proofs.Ytejcabdejoameaa.AI
open Go Go.ChangeShapes Go.WideShapes Go.ChangeAt Go.RowKit

/-- Some bytes in the memory. -/
def UI (H : Heap) (a : Option Addr) (z : Nat) (l : List Int) : Prop := ∀ (i : Nat) (x : Int), l[i]? = some x → ∃ b o w cs, a = some ⟨b, o, none⟩ ∧ z = 1 ∧ hget H b = some ⟨w, cs⟩ ∧ cs[o + i]? = some (.int .u8 x)
theorem UI.frame0 {H H' : Heap} {a : Option Addr} {z : Nat} {l : List Int} (h : UI H a z l) (f : Frm [] H H') : UI H' a z l := by
  intro i x hx
  obtain ⟨b, o, w, cs, h1, h2, h3, h4⟩ := h i x hx
  exact ⟨b, o, w, cs, h1, h2, f.gets h3, h4⟩
theorem UI.push {H : Heap} {a : Option Addr} {z : Nat} {l : List Int} (h : UI H a z l) (b : Option Blk) : UI (H ++ [b]) a z l := h.frame0 ((Frm.refl _ _).push b)
theorem u8s_slice {H : Heap} {rows : List (List Value)} {av : Value} {blk : Option Blk} (h : AbsSlice H.length [.int .u8] rows av blk) (hr : ∀ r ∈ rows, RowOf [.int .u8] r) :
    ∃ (l : List Int) (a : Option Addr) (z : Nat), av = .slice a l.length z ∧ UI (H ++ [blk]) a z l ∧ (∀ x ∈ l, 0 ≤ x ∧ x < 256) ∧ NilOk a z l.length := by
  obtain ⟨l, rfl, hl⟩ := rows_list (cells := fun x : Int => [Value.int .u8 x]) (ok := fun x => 0 ≤ x ∧ x < 256) (fun r hm => by
    obtain ⟨h1, h2⟩ := hr r hm
    match r, h1 with
    | [c], _ =>
      obtain ⟨n, rfl, w⟩ := h2 0 (.int .u8) c rfl rfl
      exact ⟨n, rfl, u8_wf' w⟩)
  have nil : ∀ H a z, UI H a z [] := fun H a z i x h => by simp at h
  rcases h with ⟨rfl, h0⟩ | ⟨rfl, h0⟩
  · have : l = [] := by simpa using h0
    subst this
    exact ⟨[], none, 0, rfl, nil _ _ _, hl, fun _ => ⟨rfl, rfl⟩⟩
  · refine ⟨l, some ⟨H.length, 0, none⟩, 1, by simp, ?_, hl, fun h => by simp at h⟩
    rcases h0 with h0 | h0
    · have : l = [] := by simpa using h0
      subst this; exact nil _ _ _
    · subst h0
      intro i x hx
      refine ⟨H.length, 0, false, _, rfl, rfl, hget_push, ?_⟩
      have : ∀ (m : List Int), (m.map fun x : Int => [Value.int .u8 x]).flatten = m.map fun x => .int .u8 x := by
        intro m; induction m with
        | nil => rfl
        | cons a m ih => simp [ih]
      rw [this, zaz, List.getElem?_map, hx]; rfl
theorem u8s_arg {W : World} {B : Map} {H : Heap} {v : Value} (hc : isL W (.sl [.int .u8]) v) (hr : HR sig W.heap.size B H W) (hro : ∀ i b, hget H i = some b → b.rw = false) :
    ∃ (l : List Int) (a : Option Addr) (z : Nat) (B' : Map) (blk : Option Blk), VR sig B' (.slice a l.length z) v ∧ Ext B B' ∧ HR sig W.heap.size B' (H ++ [blk]) W ∧ (∀ i b, hget (H ++ [blk]) i = some b → b.rw = false) ∧ UI (H ++ [blk]) a z l ∧ (∀ x ∈ l, 0 ≤ x ∧ x < 256) ∧ NilOk a z l.length := by
  obtain ⟨av, B', blk, rows, h1, h2, h3, h4, h5, h6⟩ := add_slice hc (by decide) hr hro
  obtain ⟨l, a, z, rfl, h7, h8, h9⟩ := u8s_slice h5 h6
  exact ⟨l, a, z, B', blk, h1, h2, h3, h4, h7, h8, h9⟩

end Go.Proofs.Ytejcabdejoameaa.AI

/- The chapter's example is answered with true. -/
namespace Go.Proofs.Ytejcabdejoameaa.AI
open Go

theorem awake_ac : ac tbl 400 109 [] [] = some (.bool true, []) := by kernel_rfl
theorem awake0 : AC tbl 109 [] [] = some (.bool true, []) := ac_AC tbl 400 _ _ _ _ awake_ac
theorem awake_any (H : Heap) : AC tbl 109 [] H = some (.bool true, H) := AC_iso (F := F109) rfl (by decide) rfl rfl rfl awake0 H

end Go.Proofs.Ytejcabdejoameaa.AI

/- BeaconEach in the interpreter. -/
set_option linter.unusedSimpArgs false
set_option linter.unusedVariables false
set_option maxHeartbeats 8000000
namespace Go.Proofs.Ytejcabdejoameaa.AI
open Go

theorem Same1_tb {H : Heap} {a : Option Addr} {z n : Nat} {p q : Int} (h : NilOk a z n) : Same1 (.agg #[.int .i64 p, .int .i64 q, .slice a n z]) (some (.agg #[.int .i64 p, .int .i64 q, .slice a n z], H)) = True := by
  cases a with
  | none =>
    obtain ⟨rfl, rfl⟩ := h rfl
    simp [Same1, sameV, sameV.sameL]
  | some a => simp [Same1, sameV, sameV.sameL]

theorem beach {H : Heap} {a : Option Addr} {z : Nat} {slots : List Int} {pn turns fr : Int} (h : UI H a z slots) (hok : ∀ x ∈ slots, 0 ≤ x ∧ x < 256) (hN : NilOk a z slots.length) (ha : 0 ≤ pn ∧ pn < 256) (ht : 0 ≤ turns ∧ turns < 256) (hs : 0 ≤ fr ∧ fr < 65536) :
    Op1 (AC tbl 104 [.slice a slots.length z, .int .u8 pn, .int .u8 turns, .int .u16 fr] H) fun r _ => r = .bool true := by
  apply AC_wp (F := F104) rfl (by simp [F104]) (.inl rfl)
  have bt : ∀ b : Bool, (b == true) = b := fun b => by cases b <;> rfl
  have bf : ∀ b : Bool, (b == false) = !b := fun b => by cases b <;> rfl
  have wa : IntKind.i64.wrap pn = pn := wrap_i64 (by omega) (by omega)
  have wt : IntKind.i64.wrap turns = turns := wrap_i64 (by omega) (by omega)
  have ws : IntKind.i64.wrap fr = fr := wrap_i64 (by omega) (by omega)
  have r32 : ∀ x, binV .rem (.int .i64 x) (.int .i64 32) = some (.int .i64 (x.tmod 32)) := fun x => binV_rem _ _ _ (by decide)
  have r12 : ∀ x, binV .rem (.int .i64 x) (.int .i64 12) = some (.int .i64 (x.tmod 12)) := fun x => binV_rem _ _ _ (by decide)
  have r8 : ∀ x, binV .rem (.int .i64 x) (.int .i64 8) = some (.int .i64 (x.tmod 8)) := fun x => binV_rem _ _ _ (by decide)
  have t0 : 0 ≤ turns.tmod 8 := Int.tmod_nonneg _ ht.1
  have t1 : turns.tmod 8 < 8 := Int.tmod_lt_of_pos _ (by decide)
  have wn : IntKind.i64.wrap (1 + turns.tmod 8) = 1 + turns.tmod 8 := wrap_i64 (by omega) (by omega)
  have d0 : 0 ≤ pn.tmod 32 := Int.tmod_nonneg _ ha.1
  have d1 : pn.tmod 32 < 32 := Int.tmod_lt_of_pos _ (by decide)
  by_cases c0 : (20 : Int) < (slots.length : Int)
  · simp only [F104, ↓yaa, ↓yab, ↓yac, ↓yad, ↓yae, ↓yaf, ↓yag, ↓yah, ↓yai, ↓ydb, ↓ydc, ↓ydd, ↓yde, ↓ydf, ↓ydg, ↓yao, ↓yap, ↓ydh, ↓ydi, ↓ydj, ↓ydk, ↓ydl, ↓ydm, ↓ydn, ↓ydo, ↓ydp, ↓yax, yay, yaz, yba, ybb, ybc, ybd, ybe, ybf, ybg, ybh, ybi, ybj, ybk, ybl, ybm, ybn, ybo, ybp, ybq, ybr, ybs, ybt, ybu, ybv, ares, tup, ybw, ybx, yby, argsE, dval, aop, ev, evs, evo, evp, fillL, addrOf, intOf?, ybz, yca, ycb, ycc, ycd, yce, ycf, zah, zag, reduceIte, Nat.reduceEqDiff, ycg, ych, yci, ycj, yck, ycl, ycm, ycn, yco, ycp, ycq, ycr, zap, zao, reduceCtorEq, zbb, zbc, zba, zaz, Nat.reduceAdd, Nat.reduceMul, zaq, zar, eqPtr, zae, zaf, zab, zaa, zac, zad, hload, hstore, zal, zam, Nat.reduceAdd, Nat.reduceLeDiff, zbb, zas, zat, one, zau, zaw, zav, splice, zaj, zak, zab, zaa, ycs, yct, ycu, ycv, ycw, ycx, ycy, ycz, zan, zai, zax, zay, and_self, true_and, and_true, lenV, yda, Nat.le_refl, if_true, ydq, ydr, yds, ne_eq, not_true_eq_false, not_false_eq_true, ← decide_not, Decidable.not_not, ydt, ydu, ydz, ydv, ydw, List.drop_zero, eq_self, Bool.false_eq_true, List.getElem?_toArray, yea, yeb, List.nil_append, List.cons_append, Bool.false_and, Int.reduceEq, Int.reduceLT, Int.reduceLE, Int.reduceNe, zbc, zbb, yec, yed, yee, yef, ydx, ydy, awake_any, c0]
  · simp only [F104, ↓yaa, ↓yab, ↓yac, ↓yad, ↓yae, ↓yaf, ↓yag, ↓yah, ↓yai, ↓ydb, ↓ydc, ↓ydd, ↓yde, ↓ydf, ↓ydg, ↓yao, ↓yap, ↓ydh, ↓ydi, ↓ydj, ↓ydk, ↓ydl, ↓ydm, ↓ydn, ↓ydo, ↓ydp, ↓yax, yay, yaz, yba, ybb, ybc, ybd, ybe, ybf, ybg, ybh, ybi, ybj, ybk, ybl, ybm, ybn, ybo, ybp, ybq, ybr, ybs, ybt, ybu, ybv, ares, tup, ybw, ybx, yby, argsE, dval, aop, ev, evs, evo, evp, fillL, addrOf, intOf?, ybz, yca, ycb, ycc, ycd, yce, ycf, zah, zag, reduceIte, Nat.reduceEqDiff, ycg, ych, yci, ycj, yck, ycl, ycm, ycn, yco, ycp, ycq, ycr, zap, zao, reduceCtorEq, zbb, zbc, zba, zaz, Nat.reduceAdd, Nat.reduceMul, zaq, zar, eqPtr, zae, zaf, zab, zaa, zac, zad, hload, hstore, zal, zam, Nat.reduceAdd, Nat.reduceLeDiff, zbb, zas, zat, one, zau, zaw, zav, splice, zaj, zak, zab, zaa, ycs, yct, ycu, ycv, ycw, ycx, ycy, ycz, zan, zai, zax, zay, and_self, true_and, and_true, lenV, yda, Nat.le_refl, if_true, ydq, ydr, yds, ne_eq, not_true_eq_false, not_false_eq_true, ← decide_not, Decidable.not_not, ydt, ydu, ydz, ydv, ydw, List.drop_zero, eq_self, Bool.false_eq_true, List.getElem?_toArray, yea, yeb, List.nil_append, List.cons_append, Bool.false_and, Int.reduceEq, Int.reduceLT, Int.reduceLE, Int.reduceNe, zbc, zbb, yec, yed, yee, yef, ydx, ydy, awake_any, c0, wa, wt, r32, r8, wn, sz3, tk3, ls3]
    obtain ⟨n, hn⟩ : ∃ n, n = 1 + turns.tmod 8 := ⟨_, rfl⟩
    obtain ⟨nd, hnd⟩ : ∃ nd, nd = pn.tmod 32 := ⟨_, rfl⟩
    rw [← hn, ← hnd]
    have hn8 : 1 ≤ n ∧ n ≤ 8 := by omega
    have hnr : 0 ≤ nd ∧ nd < 32 := by omega
    have f0 : Frm [] H (H ++ [some (⟨true, [.int .i64 nd, .int .i64 12, .slice none 0 0]⟩ : Blk)]) := (Frm.refl _ _).push _
    apply AW_loop_inv (fun k e H1 => ∃ (i : Nat) (ss : List Int) (T : Tb) (a' : Option Addr) (z' : Nat), i + k = slots.length ∧ e = [(3, .int .u16 fr), (9, .int .i64 n), (10, .pointer (some ⟨H.length, 0, none⟩)), (36, .slice a slots.length z), (37, .int .i64 (slots.length : Int)), (38, .int .i64 (i : Int))] ∧
      Frm [] H H1 ∧ hget H1 H.length = some (⟨true, [.int .i64 T.node, .int .i64 T.len, .slice a' T.cs.length z']⟩ : Blk) ∧ T = TbS nd ss ∧ SS ss ∧ ss.length ≤ i ∧ TI H1 a' z' T.cs ∧ NilOk a' z' T.cs.length ∧ (∀ b o, a' = some ⟨b, o, none⟩ → H.length + 1 ≤ b)) _ slots.length
    · exact ⟨0, [], ⟨nd, 12, []⟩, none, 0, by omega, rfl, f0, ydu, rfl, ⟨List.Pairwise.nil, fun s hs => by simp at hs, by simp⟩, by simp, fun i x hx => by simp at hx, fun _ => ⟨rfl, rfl⟩, fun b o hb => by simp at hb⟩
    · rintro k e H1 ⟨i, ss, T, a', z', hik, rfl, f1, gx, hTe, hss, hsl, hT, hTN, hTb⟩
      have lx := hget_lt gx
      have htv : T.v a' z' = .agg #[.int .i64 T.node, .int .i64 T.len, .slice a' T.cs.length z'] := rfl
      cases k with
      | zero =>
        have g0 : ¬ (i : Int) < (slots.length : Int) := by omega
        simp only [↓yaa, ↓yab, ↓yac, ↓yad, ↓yae, ↓yaf, ↓yag, ↓yah, ↓yai, ↓ydb, ↓ydc, ↓ydd, ↓yde, ↓ydf, ↓ydg, ↓yao, ↓yap, ↓ydh, ↓ydi, ↓ydj, ↓ydk, ↓ydl, ↓ydm, ↓ydn, ↓ydo, ↓ydp, ↓yax, yay, yaz, yba, ybb, ybc, ybd, ybe, ybf, ybg, ybh, ybi, ybj, ybk, ybl, ybm, ybn, ybo, ybp, ybq, ybr, ybs, ybt, ybu, ybv, ares, tup, ybw, ybx, yby, argsE, dval, aop, ev, evs, evo, evp, fillL, addrOf, intOf?, ybz, yca, ycb, ycc, ycd, yce, ycf, zah, zag, reduceIte, Nat.reduceEqDiff, ycg, ych, yci, ycj, yck, ycl, ycm, ycn, yco, ycp, ycq, ycr, zap, zao, reduceCtorEq, zbb, zbc, zba, zaz, Nat.reduceAdd, Nat.reduceMul, zaq, zar, eqPtr, zae, zaf, zab, zaa, zac, zad, hload, hstore, zal, zam, Nat.reduceAdd, Nat.reduceLeDiff, zbb, zas, zat, one, zau, zaw, zav, splice, zaj, zak, zab, zaa, ycs, yct, ycu, ycv, ycw, ycx, ycy, ycz, zan, zai, zax, zay, and_self, true_and, and_true, lenV, yda, Nat.le_refl, if_true, ydq, ydr, yds, ne_eq, not_true_eq_false, not_false_eq_true, ← decide_not, Decidable.not_not, ydt, ydu, ydz, ydv, ydw, List.drop_zero, eq_self, Bool.false_eq_true, List.getElem?_toArray, yea, yeb, List.nil_append, List.cons_append, Bool.false_and, Int.reduceEq, Int.reduceLT, Int.reduceLE, Int.reduceNe, zbc, zbb, yec, yed, yee, yef, ydx, ydy, g0, gx, tk3, ls3, ws]
        rw [← htv]
        refine f118 hT ⟨by omega, by omega⟩ ⟨by omega, by omega⟩ (by omega) fun H2 v ok f2 hnx => ?_
        have gx2 := f2.gets gx
        have hTok : T.Ok := by rw [hTe]; exact hss.ok hnr
        have hTl : T.len = 12 := by rw [hTe]; rfl
        have hTn : T.node = nd := by rw [hTe]; rfl
        have hTc : T.cs.length = ss.length := by rw [hTe]; simp [TbS]
        have hdue : ∀ x, 0 ≤ x → T.due x n = decide (x % 12 ∈ ss ∧ rk ss x % n = nd % n) := fun x hx => by rw [hTe]; exact due_S hss hnr hx hn8
        have hturn : ∀ x, 0 ≤ x → T.turn x n = if x % 12 ∈ ss then (rk ss x % n, true) else (0, false) := fun x hx => by rw [hTe]; exact turn_S hss hnr hx hn8
        obtain ⟨hnt, hnf⟩ := hnx.2 ⟨hTok, by omega, by omega⟩
        by_cases c1 : ss.length = 0
        · have hnil : ss = [] := List.length_eq_zero_iff.1 c1
          have c1' : ((T.cs.length : Int) = 0) = True := eq_true (by omega)
          cases ok with
          | true =>
            obtain ⟨r, r1, r2, r3, r4⟩ := hnt rfl
            rw [hdue v (by omega), hnil] at r3
            simp at r3
          | false =>
            obtain ⟨hv, _⟩ := hnf rfl
            simp only [↓yaa, ↓yab, ↓yac, ↓yad, ↓yae, ↓yaf, ↓yag, ↓yah, ↓yai, ↓ydb, ↓ydc, ↓ydd, ↓yde, ↓ydf, ↓ydg, ↓yao, ↓yap, ↓ydh, ↓ydi, ↓ydj, ↓ydk, ↓ydl, ↓ydm, ↓ydn, ↓ydo, ↓ydp, ↓yax, yay, yaz, yba, ybb, ybc, ybd, ybe, ybf, ybg, ybh, ybi, ybj, ybk, ybl, ybm, ybn, ybo, ybp, ybq, ybr, ybs, ybt, ybu, ybv, ares, tup, ybw, ybx, yby, argsE, dval, aop, ev, evs, evo, evp, fillL, addrOf, intOf?, ybz, yca, ycb, ycc, ycd, yce, ycf, zah, zag, reduceIte, Nat.reduceEqDiff, ycg, ych, yci, ycj, yck, ycl, ycm, ycn, yco, ycp, ycq, ycr, zap, zao, reduceCtorEq, zbb, zbc, zba, zaz, Nat.reduceAdd, Nat.reduceMul, zaq, zar, eqPtr, zae, zaf, zab, zaa, zac, zad, hload, hstore, zal, zam, Nat.reduceAdd, Nat.reduceLeDiff, zbb, zas, zat, one, zau, zaw, zav, splice, zaj, zak, zab, zaa, ycs, yct, ycu, ycv, ycw, ycx, ycy, ycz, zan, zai, zax, zay, and_self, true_and, and_true, lenV, yda, Nat.le_refl, if_true, ydq, ydr, yds, ne_eq, not_true_eq_false, not_false_eq_true, ← decide_not, Decidable.not_not, ydt, ydu, ydz, ydv, ydw, List.drop_zero, eq_self, Bool.false_eq_true, List.getElem?_toArray, yea, yeb, List.nil_append, List.cons_append, Bool.false_and, Int.reduceEq, Int.reduceLT, Int.reduceLE, Int.reduceNe, zbc, zbb, yec, yed, yee, yef, ydx, ydy, gx2, c1', hv]
        · have c1' : ((T.cs.length : Int) = 0) = False := eq_false (by omega)
          -- there is a turn
          have hround := rk_round hss (k := fr) (n := n) hs.1
          have hlen1 : n * 1 ≤ n * (ss.length : Int) := Int.mul_le_mul_of_nonneg_left (by omega) (by omega)
          rw [Int.mul_one] at hlen1
          obtain ⟨N, hN12⟩ : ∃ N : Nat, (N : Int) = 12 * n := ⟨(12 * n).toNat, by omega⟩
          obtain ⟨rs, rs1, rs2, rs3⟩ := @ex_r (rk ss fr) nd n hn8
          cases ok with
          | false =>
            exfalso
            obtain ⟨i0, h1, h2, h3⟩ := rk_cover hss hs.1 N rs rs1 (by rw [hN12, hround]; omega)
            have := (hnf rfl).2 i0 (by rw [hTl]; omega)
            rw [hdue _ (by omega), h3] at this
            simp [h2, rs3] at this
          | true =>
            obtain ⟨r, r1, r2, r3, r4⟩ := hnt rfl
            have c2 : ¬ v < fr := by omega
            have hvd := r3
            rw [hdue v (by omega), decide_eq_true_eq] at hvd
            simp only [↓yaa, ↓yab, ↓yac, ↓yad, ↓yae, ↓yaf, ↓yag, ↓yah, ↓yai, ↓ydb, ↓ydc, ↓ydd, ↓yde, ↓ydf, ↓ydg, ↓yao, ↓yap, ↓ydh, ↓ydi, ↓ydj, ↓ydk, ↓ydl, ↓ydm, ↓ydn, ↓ydo, ↓ydp, ↓yax, yay, yaz, yba, ybb, ybc, ybd, ybe, ybf, ybg, ybh, ybi, ybj, ybk, ybl, ybm, ybn, ybo, ybp, ybq, ybr, ybs, ybt, ybu, ybv, ares, tup, ybw, ybx, yby, argsE, dval, aop, ev, evs, evo, evp, fillL, addrOf, intOf?, ybz, yca, ycb, ycc, ycd, yce, ycf, zah, zag, reduceIte, Nat.reduceEqDiff, ycg, ych, yci, ycj, yck, ycl, ycm, ycn, yco, ycp, ycq, ycr, zap, zao, reduceCtorEq, zbb, zbc, zba, zaz, Nat.reduceAdd, Nat.reduceMul, zaq, zar, eqPtr, zae, zaf, zab, zaa, zac, zad, hload, hstore, zal, zam, Nat.reduceAdd, Nat.reduceLeDiff, zbb, zas, zat, one, zau, zaw, zav, splice, zaj, zak, zab, zaa, ycs, yct, ycu, ycv, ycw, ycx, ycy, ycz, zan, zai, zax, zay, and_self, true_and, and_true, lenV, yda, Nat.le_refl, if_true, ydq, ydr, yds, ne_eq, not_true_eq_false, not_false_eq_true, ← decide_not, Decidable.not_not, ydt, ydu, ydz, ydv, ydw, List.drop_zero, eq_self, Bool.false_eq_true, List.getElem?_toArray, yea, yeb, List.nil_append, List.cons_append, Bool.false_and, Int.reduceEq, Int.reduceLT, Int.reduceLE, Int.reduceNe, zbc, zbb, yec, yed, yee, yef, ydx, ydy, gx2, c1', c2, ws]
            have w12 : IntKind.i64.wrap (12 * n) = 12 * n := wrap_i64 (by omega) (by omega)
            have wf12 : IntKind.i64.wrap (fr + 12 * n) = fr + 12 * n := wrap_i64 (by omega) (by omega)
            have rmn : binV .rem (.int .i64 T.node) (.int .i64 n) = some (.int .i64 (nd % n)) := by rw [binV_rem _ _ _ (by omega), hTn, Int.tmod_eq_emod_of_nonneg hnr.1]
            apply AW_loop_inv (fun k e H3 => ∃ (j : Nat) (many own : Int) (first : Bool), j + k = N ∧ e = [(3, .int .u16 fr), (9, .int .i64 n), (10, .pointer (some ⟨H.length, 0, none⟩)), (15, .int .i64 v), (17, .bool first), (18, .int .i64 many), (19, .int .i64 own), (20, .int .i64 (fr + (j : Int)))] ∧
              Frm [] H2 H3 ∧ many = rk ss (fr + (j : Int)) - rk ss fr ∧ many ≤ n ∧
              ((own = 0 ∧ first = true ∧ ∀ i : Nat, i < j → ¬ ((fr + (i : Int)) % 12 ∈ ss ∧ rk ss (fr + (i : Int)) % n = nd % n)) ∨ (own = 1 ∧ first = false ∧ ∃ i : Nat, i < j ∧ ((fr + (i : Int)) % 12 ∈ ss ∧ rk ss (fr + (i : Int)) % n = nd % n)))) _ N
            · refine ⟨0, 0, 0, true, by omega, by simp, Frm.refl _ _, by simp, by omega, .inl ⟨rfl, rfl, fun i hi => by omega⟩⟩
            · rintro k e H3 ⟨j, many, own, first, hjk, rfl, f3, hmany, hmn, hown⟩
              have gx3 := f3.gets gx2
              have hT3 := (hT.frame0 f2).frame0 f3
              have m0 := rk_mono hss (k := fr) hs.1 j
              by_cases c3 : many < n
              · -- the slot is not too far
                have hj : j < N := by
                  refine Classical.byContradiction fun q => ?_
                  have := rk_mono hss (k := fr + 12 * n) (by omega) (j - N)
                  rw [show fr + 12 * n + ((j - N : Nat) : Int) = fr + j by omega] at this
                  omega
                obtain ⟨k', rfl⟩ : ∃ k', k = k' + 1 := ⟨k - 1, by omega⟩
                have c4 : ¬ fr + 12 * n < fr + (j : Int) := by omega
                have wj : IntKind.i64.wrap (fr + (j : Int) + 1) = fr + ((j + 1 : Nat) : Int) := by rw [wrap_i64 (by omega) (by omega)]; omega
                have wm : IntKind.i64.wrap (many + 1) = many + 1 := wrap_i64 (by omega) (by omega)
                have hsucc := rk_succ hss (k := fr + (j : Int)) (by omega)
                have hj1 : fr + ((j + 1 : Nat) : Int) = fr + (j : Int) + 1 := by omega
                simp only [↓yaa, ↓yab, ↓yac, ↓yad, ↓yae, ↓yaf, ↓yag, ↓yah, ↓yai, ↓ydb, ↓ydc, ↓ydd, ↓yde, ↓ydf, ↓ydg, ↓yao, ↓yap, ↓ydh, ↓ydi, ↓ydj, ↓ydk, ↓ydl, ↓ydm, ↓ydn, ↓ydo, ↓ydp, ↓yax, yay, yaz, yba, ybb, ybc, ybd, ybe, ybf, ybg, ybh, ybi, ybj, ybk, ybl, ybm, ybn, ybo, ybp, ybq, ybr, ybs, ybt, ybu, ybv, ares, tup, ybw, ybx, yby, argsE, dval, aop, ev, evs, evo, evp, fillL, addrOf, intOf?, ybz, yca, ycb, ycc, ycd, yce, ycf, zah, zag, reduceIte, Nat.reduceEqDiff, ycg, ych, yci, ycj, yck, ycl, ycm, ycn, yco, ycp, ycq, ycr, zap, zao, reduceCtorEq, zbb, zbc, zba, zaz, Nat.reduceAdd, Nat.reduceMul, zaq, zar, eqPtr, zae, zaf, zab, zaa, zac, zad, hload, hstore, zal, zam, Nat.reduceAdd, Nat.reduceLeDiff, zbb, zas, zat, one, zau, zaw, zav, splice, zaj, zak, zab, zaa, ycs, yct, ycu, ycv, ycw, ycx, ycy, ycz, zan, zai, zax, zay, and_self, true_and, and_true, lenV, yda, Nat.le_refl, if_true, ydq, ydr, yds, ne_eq, not_true_eq_false, not_false_eq_true, ← decide_not, Decidable.not_not, ydt, ydu, ydz, ydv, ydw, List.drop_zero, eq_self, Bool.false_eq_true, List.getElem?_toArray, yea, yeb, List.nil_append, List.cons_append, Bool.false_and, Int.reduceEq, Int.reduceLT, Int.reduceLE, Int.reduceNe, zbc, zbb, yec, yed, yee, yef, ydx, ydy, c3, c4, w12, wf12, ws, gx3, tk3, ls3]
                rw [← htv]
                refine f116 hT3 ⟨by omega, by omega⟩ fun H4 f4 => ?_
                rw [hturn _ (by omega)]
                have gx4 := f4.gets gx3
                have hT4 := hT3.frame0 f4
                by_cases c5 : (fr + (j : Int)) % 12 ∈ ss
                · have c5' := eq_true c5
                  rw [if_pos c5] at hsucc
                  rw [if_pos c5]
                  have p0 : 0 ≤ rk ss (fr + (j : Int)) % n := Int.emod_nonneg _ (by omega)
                  have p1 : rk ss (fr + (j : Int)) % n < n := Int.emod_lt_of_pos _ (by omega)
                  have c6 : ¬ rk ss (fr + (j : Int)) % n < 0 := by omega
                  have c7 : ¬ n ≤ rk ss (fr + (j : Int)) % n := by omega
                  simp only [↓yaa, ↓yab, ↓yac, ↓yad, ↓yae, ↓yaf, ↓yag, ↓yah, ↓yai, ↓ydb, ↓ydc, ↓ydd, ↓yde, ↓ydf, ↓ydg, ↓yao, ↓yap, ↓ydh, ↓ydi, ↓ydj, ↓ydk, ↓ydl, ↓ydm, ↓ydn, ↓ydo, ↓ydp, ↓yax, yay, yaz, yba, ybb, ybc, ybd, ybe, ybf, ybg, ybh, ybi, ybj, ybk, ybl, ybm, ybn, ybo, ybp, ybq, ybr, ybs, ybt, ybu, ybv, ares, tup, ybw, ybx, yby, argsE, dval, aop, ev, evs, evo, evp, fillL, addrOf, intOf?, ybz, yca, ycb, ycc, ycd, yce, ycf, zah, zag, reduceIte, Nat.reduceEqDiff, ycg, ych, yci, ycj, yck, ycl, ycm, ycn, yco, ycp, ycq, ycr, zap, zao, reduceCtorEq, zbb, zbc, zba, zaz, Nat.reduceAdd, Nat.reduceMul, zaq, zar, eqPtr, zae, zaf, zab, zaa, zac, zad, hload, hstore, zal, zam, Nat.reduceAdd, Nat.reduceLeDiff, zbb, zas, zat, one, zau, zaw, zav, splice, zaj, zak, zab, zaa, ycs, yct, ycu, ycv, ycw, ycx, ycy, ycz, zan, zai, zax, zay, and_self, true_and, and_true, lenV, yda, Nat.le_refl, if_true, ydq, ydr, yds, ne_eq, not_true_eq_false, not_false_eq_true, ← decide_not, Decidable.not_not, ydt, ydu, ydz, ydv, ydw, List.drop_zero, eq_self, Bool.false_eq_true, List.getElem?_toArray, yea, yeb, List.nil_append, List.cons_append, Bool.false_and, Int.reduceEq, Int.reduceLT, Int.reduceLE, Int.reduceNe, zbc, zbb, yec, yed, yee, yef, ydx, ydy, wm, c6, c7, gx4, tk3, ls3, Same1_tb hTN]
                  rw [← htv]
                  refine f120 hT4 ⟨by omega, by omega⟩ fun H5 f5 => ?_
                  rw [hdue _ (by omega)]
                  have gx5 := f5.gets gx4
                  have ff := f3.then (f4.then f5)
                  by_cases c8 : rk ss (fr + (j : Int)) % n = nd % n
                  · have c8' := eq_true c8
                    have hdd : ((fr + (j : Int)) % 12 ∈ ss ∧ rk ss (fr + (j : Int)) % n = nd % n) = True := eq_true ⟨c5, c8⟩
                    rcases hown with ⟨rfl, rfl, ho⟩ | ⟨rfl, rfl, i0, hi0, hi1, hi2⟩
                    · have hv : fr + (j : Int) = v := by
                        have h1 : ¬ (r : Int) < (j : Int) := fun q => by
                          refine ho r (by omega) ?_
                          rw [← r2]; exact hvd
                        have h2 : ¬ (j : Int) < (r : Int) := fun q => by
                          have := r4 j (by omega)
                          rw [hdue _ (by omega)] at this
                          simp only [hdd, zbb] at this
                          simp at this
                        omega
                      have hv' := eq_true hv
                      have wo : IntKind.i64.wrap (0 + 1) = 1 := by decide
                      simp only [↓yaa, ↓yab, ↓yac, ↓yad, ↓yae, ↓yaf, ↓yag, ↓yah, ↓yai, ↓ydb, ↓ydc, ↓ydd, ↓yde, ↓ydf, ↓ydg, ↓yao, ↓yap, ↓ydh, ↓ydi, ↓ydj, ↓ydk, ↓ydl, ↓ydm, ↓ydn, ↓ydo, ↓ydp, ↓yax, yay, yaz, yba, ybb, ybc, ybd, ybe, ybf, ybg, ybh, ybi, ybj, ybk, ybl, ybm, ybn, ybo, ybp, ybq, ybr, ybs, ybt, ybu, ybv, ares, tup, ybw, ybx, yby, argsE, dval, aop, ev, evs, evo, evp, fillL, addrOf, intOf?, ybz, yca, ycb, ycc, ycd, yce, ycf, zah, zag, reduceIte, Nat.reduceEqDiff, ycg, ych, yci, ycj, yck, ycl, ycm, ycn, yco, ycp, ycq, ycr, zap, zao, reduceCtorEq, zbb, zbc, zba, zaz, Nat.reduceAdd, Nat.reduceMul, zaq, zar, eqPtr, zae, zaf, zab, zaa, zac, zad, hload, hstore, zal, zam, Nat.reduceAdd, Nat.reduceLeDiff, zbb, zas, zat, one, zau, zaw, zav, splice, zaj, zak, zab, zaa, ycs, yct, ycu, ycv, ycw, ycx, ycy, ycz, zan, zai, zax, zay, and_self, true_and, and_true, lenV, yda, Nat.le_refl, if_true, ydq, ydr, yds, ne_eq, not_true_eq_false, not_false_eq_true, ← decide_not, Decidable.not_not, ydt, ydu, ydz, ydv, ydw, List.drop_zero, eq_self, Bool.false_eq_true, List.getElem?_toArray, yea, yeb, List.nil_append, List.cons_append, Bool.false_and, Int.reduceEq, Int.reduceLT, Int.reduceLE, Int.reduceNe, zbc, zbb, yec, yed, yee, yef, ydx, ydy, c5', c8', and_false, bt, bf, gx4, gx5, rmn, beq_self_eq_true, bne_self_eq_false, hv', wo, wj]
                      exact ⟨k', by omega, j + 1, many + 1, 1, false, by omega, rfl, ff, by rw [hj1]; omega, by omega, .inr ⟨rfl, rfl, j, by omega, c5, c8⟩⟩
                    · exfalso
                      have h1 := rk_succ hss (k := fr + (i0 : Int)) (by omega)
                      rw [if_pos hi1] at h1
                      have h2 := rk_mono hss (k := fr + (i0 : Int) + 1) (by omega) (j - (i0 + 1))
                      rw [show fr + (i0 : Int) + 1 + ((j - (i0 + 1) : Nat) : Int) = fr + j by omega] at h2
                      have h3 := rk_mono hss (k := fr) hs.1 i0
                      have := uniq_r hn8 (r := rk ss (fr + (j : Int))) (s := rk ss (fr + (i0 : Int))) (by rw [c8, hi2]) (by omega) (by omega)
                      omega
                  · have c8' := eq_false c8
                    have hdd : ((fr + (j : Int)) % 12 ∈ ss ∧ rk ss (fr + (j : Int)) % n = nd % n) = False := eq_false (fun q => c8 q.2)
                    simp only [↓yaa, ↓yab, ↓yac, ↓yad, ↓yae, ↓yaf, ↓yag, ↓yah, ↓yai, ↓ydb, ↓ydc, ↓ydd, ↓yde, ↓ydf, ↓ydg, ↓yao, ↓yap, ↓ydh, ↓ydi, ↓ydj, ↓ydk, ↓ydl, ↓ydm, ↓ydn, ↓ydo, ↓ydp, ↓yax, yay, yaz, yba, ybb, ybc, ybd, ybe, ybf, ybg, ybh, ybi, ybj, ybk, ybl, ybm, ybn, ybo, ybp, ybq, ybr, ybs, ybt, ybu, ybv, ares, tup, ybw, ybx, yby, argsE, dval, aop, ev, evs, evo, evp, fillL, addrOf, intOf?, ybz, yca, ycb, ycc, ycd, yce, ycf, zah, zag, reduceIte, Nat.reduceEqDiff, ycg, ych, yci, ycj, yck, ycl, ycm, ycn, yco, ycp, ycq, ycr, zap, zao, reduceCtorEq, zbb, zbc, zba, zaz, Nat.reduceAdd, Nat.reduceMul, zaq, zar, eqPtr, zae, zaf, zab, zaa, zac, zad, hload, hstore, zal, zam, Nat.reduceAdd, Nat.reduceLeDiff, zbb, zas, zat, one, zau, zaw, zav, splice, zaj, zak, zab, zaa, ycs, yct, ycu, ycv, ycw, ycx, ycy, ycz, zan, zai, zax, zay, and_self, true_and, and_true, lenV, yda, Nat.le_refl, if_true, ydq, ydr, yds, ne_eq, not_true_eq_false, not_false_eq_true, ← decide_not, Decidable.not_not, ydt, ydu, ydz, ydv, ydw, List.drop_zero, eq_self, Bool.false_eq_true, List.getElem?_toArray, yea, yeb, List.nil_append, List.cons_append, Bool.false_and, Int.reduceEq, Int.reduceLT, Int.reduceLE, Int.reduceNe, zbc, zbb, yec, yed, yee, yef, ydx, ydy, c5', c8', and_false, bt, bf, gx4, gx5, rmn, beq_self_eq_true, bne_self_eq_false, wj]
                    refine ⟨k', by omega, j + 1, many + 1, own, first, by omega, rfl, ff, by rw [hj1]; omega, by omega, ?_⟩
                    rcases hown with ⟨h1, h2, ho⟩ | ⟨h1, h2, i0, hi0, hi1⟩
                    · refine .inl ⟨h1, h2, fun i hi => ?_⟩
                      by_cases e : i = j
                      · subst e; exact fun q => c8 q.2
                      · exact ho i (by omega)
                    · exact .inr ⟨h1, h2, i0, by omega, hi1⟩
                · rw [if_neg c5] at hsucc
                  rw [if_neg c5]
                  simp only [↓yaa, ↓yab, ↓yac, ↓yad, ↓yae, ↓yaf, ↓yag, ↓yah, ↓yai, ↓ydb, ↓ydc, ↓ydd, ↓yde, ↓ydf, ↓ydg, ↓yao, ↓yap, ↓ydh, ↓ydi, ↓ydj, ↓ydk, ↓ydl, ↓ydm, ↓ydn, ↓ydo, ↓ydp, ↓yax, yay, yaz, yba, ybb, ybc, ybd, ybe, ybf, ybg, ybh, ybi, ybj, ybk, ybl, ybm, ybn, ybo, ybp, ybq, ybr, ybs, ybt, ybu, ybv, ares, tup, ybw, ybx, yby, argsE, dval, aop, ev, evs, evo, evp, fillL, addrOf, intOf?, ybz, yca, ycb, ycc, ycd, yce, ycf, zah, zag, reduceIte, Nat.reduceEqDiff, ycg, ych, yci, ycj, yck, ycl, ycm, ycn, yco, ycp, ycq, ycr, zap, zao, reduceCtorEq, zbb, zbc, zba, zaz, Nat.reduceAdd, Nat.reduceMul, zaq, zar, eqPtr, zae, zaf, zab, zaa, zac, zad, hload, hstore, zal, zam, Nat.reduceAdd, Nat.reduceLeDiff, zbb, zas, zat, one, zau, zaw, zav, splice, zaj, zak, zab, zaa, ycs, yct, ycu, ycv, ycw, ycx, ycy, ycz, zan, zai, zax, zay, and_self, true_and, and_true, lenV, yda, Nat.le_refl, if_true, ydq, ydr, yds, ne_eq, not_true_eq_false, not_false_eq_true, ← decide_not, Decidable.not_not, ydt, ydu, ydz, ydv, ydw, List.drop_zero, eq_self, Bool.false_eq_true, List.getElem?_toArray, yea, yeb, List.nil_append, List.cons_append, Bool.false_and, Int.reduceEq, Int.reduceLT, Int.reduceLE, Int.reduceNe, zbc, zbb, yec, yed, yee, yef, ydx, ydy, gx4, tk3, ls3]
                  rw [← htv]
                  refine f120 hT4 ⟨by omega, by omega⟩ fun H5 f5 => ?_
                  rw [hdue _ (by omega)]
                  have ff := f3.then (f4.then f5)
                  have hdd : ((fr + (j : Int)) % 12 ∈ ss ∧ rk ss (fr + (j : Int)) % n = nd % n) = False := eq_false (fun q => c5 q.1)
                  simp only [↓yaa, ↓yab, ↓yac, ↓yad, ↓yae, ↓yaf, ↓yag, ↓yah, ↓yai, ↓ydb, ↓ydc, ↓ydd, ↓yde, ↓ydf, ↓ydg, ↓yao, ↓yap, ↓ydh, ↓ydi, ↓ydj, ↓ydk, ↓ydl, ↓ydm, ↓ydn, ↓ydo, ↓ydp, ↓yax, yay, yaz, yba, ybb, ybc, ybd, ybe, ybf, ybg, ybh, ybi, ybj, ybk, ybl, ybm, ybn, ybo, ybp, ybq, ybr, ybs, ybt, ybu, ybv, ares, tup, ybw, ybx, yby, argsE, dval, aop, ev, evs, evo, evp, fillL, addrOf, intOf?, ybz, yca, ycb, ycc, ycd, yce, ycf, zah, zag, reduceIte, Nat.reduceEqDiff, ycg, ych, yci, ycj, yck, ycl, ycm, ycn, yco, ycp, ycq, ycr, zap, zao, reduceCtorEq, zbb, zbc, zba, zaz, Nat.reduceAdd, Nat.reduceMul, zaq, zar, eqPtr, zae, zaf, zab, zaa, zac, zad, hload, hstore, zal, zam, Nat.reduceAdd, Nat.reduceLeDiff, zbb, zas, zat, one, zau, zaw, zav, splice, zaj, zak, zab, zaa, ycs, yct, ycu, ycv, ycw, ycx, ycy, ycz, zan, zai, zax, zay, and_self, true_and, and_true, lenV, yda, Nat.le_refl, if_true, ydq, ydr, yds, ne_eq, not_true_eq_false, not_false_eq_true, ← decide_not, Decidable.not_not, ydt, ydu, ydz, ydv, ydw, List.drop_zero, eq_self, Bool.false_eq_true, List.getElem?_toArray, yea, yeb, List.nil_append, List.cons_append, Bool.false_and, Int.reduceEq, Int.reduceLT, Int.reduceLE, Int.reduceNe, zbc, zbb, yec, yed, yee, yef, ydx, ydy, hdd, wj]
                  refine ⟨k', by omega, j + 1, many, own, first, by omega, rfl, ff, by rw [hj1]; omega, hmn, ?_⟩
                  rcases hown with ⟨h1, h2, ho⟩ | ⟨h1, h2, i0, hi0, hi1⟩
                  · refine .inl ⟨h1, h2, fun i hi => ?_⟩
                    by_cases e : i = j
                    · subst e; exact fun q => c5 q.1
                    · exact ho i (by omega)
                  · exact .inr ⟨h1, h2, i0, by omega, hi1⟩
              · rcases hown with ⟨h1, h2, ho⟩ | ⟨rfl, h2, _⟩
                · exfalso
                  obtain ⟨i0, h3, h4, h5⟩ := rk_cover hss hs.1 j rs rs1 (by omega)
                  exact ho i0 h3 ⟨h4, by rw [h5]; exact rs3⟩
                · simp only [↓yaa, ↓yab, ↓yac, ↓yad, ↓yae, ↓yaf, ↓yag, ↓yah, ↓yai, ↓ydb, ↓ydc, ↓ydd, ↓yde, ↓ydf, ↓ydg, ↓yao, ↓yap, ↓ydh, ↓ydi, ↓ydj, ↓ydk, ↓ydl, ↓ydm, ↓ydn, ↓ydo, ↓ydp, ↓yax, yay, yaz, yba, ybb, ybc, ybd, ybe, ybf, ybg, ybh, ybi, ybj, ybk, ybl, ybm, ybn, ybo, ybp, ybq, ybr, ybs, ybt, ybu, ybv, ares, tup, ybw, ybx, yby, argsE, dval, aop, ev, evs, evo, evp, fillL, addrOf, intOf?, ybz, yca, ycb, ycc, ycd, yce, ycf, zah, zag, reduceIte, Nat.reduceEqDiff, ycg, ych, yci, ycj, yck, ycl, ycm, ycn, yco, ycp, ycq, ycr, zap, zao, reduceCtorEq, zbb, zbc, zba, zaz, Nat.reduceAdd, Nat.reduceMul, zaq, zar, eqPtr, zae, zaf, zab, zaa, zac, zad, hload, hstore, zal, zam, Nat.reduceAdd, Nat.reduceLeDiff, zbb, zas, zat, one, zau, zaw, zav, splice, zaj, zak, zab, zaa, ycs, yct, ycu, ycv, ycw, ycx, ycy, ycz, zan, zai, zax, zay, and_self, true_and, and_true, lenV, yda, Nat.le_refl, if_true, ydq, ydr, yds, ne_eq, not_true_eq_false, not_false_eq_true, ← decide_not, Decidable.not_not, ydt, ydu, ydz, ydv, ydw, List.drop_zero, eq_self, Bool.false_eq_true, List.getElem?_toArray, yea, yeb, List.nil_append, List.cons_append, Bool.false_and, Int.reduceEq, Int.reduceLT, Int.reduceLE, Int.reduceNe, zbc, zbb, yec, yed, yee, yef, ydx, ydy, c3]
      | succ k =>
        obtain ⟨s, hsx⟩ : ∃ s, slots[i]? = some s := ⟨_, List.getElem?_eq_getElem (by omega)⟩
        obtain ⟨b, o, w, cs, rfl, rfl, q1, q2⟩ := (h.frame0 f1) i s hsx
        have hsb := hok s (List.mem_of_getElem? hsx)
        have g0 : (i : Int) < (slots.length : Int) := by omega
        have g1 : (0 : Int) ≤ (i : Int) := by omega
        have g3 : IntKind.i64.wrap ((i : Int) + 1) = ((i + 1 : Nat) : Int) := by rw [wrap_i64 (by omega) (by omega)]; omega
        have w1 : IntKind.i64.wrap s = s := wrap_i64 (by omega) (by omega)
        simp only [↓yaa, ↓yab, ↓yac, ↓yad, ↓yae, ↓yaf, ↓yag, ↓yah, ↓yai, ↓ydb, ↓ydc, ↓ydd, ↓yde, ↓ydf, ↓ydg, ↓yao, ↓yap, ↓ydh, ↓ydi, ↓ydj, ↓ydk, ↓ydl, ↓ydm, ↓ydn, ↓ydo, ↓ydp, ↓yax, yay, yaz, yba, ybb, ybc, ybd, ybe, ybf, ybg, ybh, ybi, ybj, ybk, ybl, ybm, ybn, ybo, ybp, ybq, ybr, ybs, ybt, ybu, ybv, ares, tup, ybw, ybx, yby, argsE, dval, aop, ev, evs, evo, evp, fillL, addrOf, intOf?, ybz, yca, ycb, ycc, ycd, yce, ycf, zah, zag, reduceIte, Nat.reduceEqDiff, ycg, ych, yci, ycj, yck, ycl, ycm, ycn, yco, ycp, ycq, ycr, zap, zao, reduceCtorEq, zbb, zbc, zba, zaz, Nat.reduceAdd, Nat.reduceMul, zaq, zar, eqPtr, zae, zaf, zab, zaa, zac, zad, hload, hstore, zal, zam, Nat.reduceAdd, Nat.reduceLeDiff, zbb, zas, zat, one, zau, zaw, zav, splice, zaj, zak, zab, zaa, ycs, yct, ycu, ycv, ycw, ycx, ycy, ycz, zan, zai, zax, zay, and_self, true_and, and_true, lenV, yda, Nat.le_refl, if_true, ydq, ydr, yds, ne_eq, not_true_eq_false, not_false_eq_true, ← decide_not, Decidable.not_not, ydt, ydu, ydz, ydv, ydw, List.drop_zero, eq_self, Bool.false_eq_true, List.getElem?_toArray, yea, yeb, List.nil_append, List.cons_append, Bool.false_and, Int.reduceEq, Int.reduceLT, Int.reduceLE, Int.reduceNe, zbc, zbb, yec, yed, yee, yef, ydx, ydy, g0, g1, Int.toNat_natCast, Nat.mul_one, q1, q2, w1, r12, f123, gx, tk3, ls3, Same1_tb hTN]
        rw [← htv]
        refine f122 hT hTN (fun H2 m f2 hm _ => ?_) (fun H2 k2 i2 f2 hok2 hfm hno hfew hi2 hlt hnl hti hkk => ?_)
        · have gx2 := f2.gets gx
          simp only [↓yaa, ↓yab, ↓yac, ↓yad, ↓yae, ↓yaf, ↓yag, ↓yah, ↓yai, ↓ydb, ↓ydc, ↓ydd, ↓yde, ↓ydf, ↓ydg, ↓yao, ↓yap, ↓ydh, ↓ydi, ↓ydj, ↓ydk, ↓ydl, ↓ydm, ↓ydn, ↓ydo, ↓ydp, ↓yax, yay, yaz, yba, ybb, ybc, ybd, ybe, ybf, ybg, ybh, ybi, ybj, ybk, ybl, ybm, ybn, ybo, ybp, ybq, ybr, ybs, ybt, ybu, ybv, ares, tup, ybw, ybx, yby, argsE, dval, aop, ev, evs, evo, evp, fillL, addrOf, intOf?, ybz, yca, ycb, ycc, ycd, yce, ycf, zah, zag, reduceIte, Nat.reduceEqDiff, ycg, ych, yci, ycj, yck, ycl, ycm, ycn, yco, ycp, ycq, ycr, zap, zao, reduceCtorEq, zbb, zbc, zba, zaz, Nat.reduceAdd, Nat.reduceMul, zaq, zar, eqPtr, zae, zaf, zab, zaa, zac, zad, hload, hstore, zal, zam, Nat.reduceAdd, Nat.reduceLeDiff, zbb, zas, zat, one, zau, zaw, zav, splice, zaj, zak, zab, zaa, ycs, yct, ycu, ycv, ycw, ycx, ycy, ycz, zan, zai, zax, zay, and_self, true_and, and_true, lenV, yda, Nat.le_refl, if_true, ydq, ydr, yds, ne_eq, not_true_eq_false, not_false_eq_true, ← decide_not, Decidable.not_not, ydt, ydu, ydz, ydv, ydw, List.drop_zero, eq_self, Bool.false_eq_true, List.getElem?_toArray, yea, yeb, List.nil_append, List.cons_append, Bool.false_and, Int.reduceEq, Int.reduceLT, Int.reduceLE, Int.reduceNe, zbc, zbb, yec, yed, yee, yef, ydx, ydy, sz3, tk3, ls3, hm, g3]
          exact ⟨k, by omega, i + 1, ss, T, a', z', by omega, rfl, (f1.then f2).push _, by rw [hget_append_lt (hget_lt gx2)]; exact gx2, hTe, hss, by omega, (hT.frame0 f2).push _, hTN, hTb⟩
        · have gx2 := f2.gets gx
          have lx2 := hget_lt gx2
          have lx3 : H.length < H2.length + 1 := by omega
          have e1 : (T.cs.take i2 ++ [shrC (s.tmod 12)] ++ T.cs.drop i2).length = T.cs.length + 1 := by simp; omega
          have m0 : 0 ≤ s.tmod 12 := Int.tmod_nonneg _ hsb.1
          have m1 : s.tmod 12 < 12 := Int.tmod_lt_of_pos _ (by decide)
          have hcs : T.cs = ss.map shrC := by rw [hTe]; rfl
          have hget_cs : ∀ (m : Nat) (s' : Int), ss[m]? = some s' → T.cs[m]? = some (shrC s') := fun m s' hm => by rw [hcs, List.getElem?_map, hm]; rfl
          have hcl : T.cs.length = ss.length := by rw [hcs]; simp
          have hput : SS (ss.take i2 ++ [s.tmod 12] ++ ss.drop i2) := hss.put (by omega) ⟨m0, m1⟩ (by omega) (fun m s' hm hs' => by
              have h1 := hlt m _ hm (hget_cs m s' hs')
              rcases h1 with h1 | ⟨_, h1⟩
              · exact h1
              · exact absurd h1 (by show ¬ (3 : Int) < 3; decide)) (fun s' hs' => by
              have h1 := hnl _ (hget_cs i2 s' hs')
              have h2 := hno i2 _ (hget_cs i2 s' hs')
              have h3 : ¬ s' < s.tmod 12 := fun q => h1 (.inl q)
              have h4 : ¬ s' = s.tmod 12 := fun q => h2 ⟨q, rfl⟩
              omega)
          have hTn : (⟨T.node, T.len, T.cs.take i2 ++ [shrC (s.tmod 12)] ++ T.cs.drop i2⟩ : Tb) = TbS nd (ss.take i2 ++ [s.tmod 12] ++ ss.drop i2) := by
            rw [hTe]; simp [TbS, List.map_take, List.map_drop]
          simp only [↓yaa, ↓yab, ↓yac, ↓yad, ↓yae, ↓yaf, ↓yag, ↓yah, ↓yai, ↓ydb, ↓ydc, ↓ydd, ↓yde, ↓ydf, ↓ydg, ↓yao, ↓yap, ↓ydh, ↓ydi, ↓ydj, ↓ydk, ↓ydl, ↓ydm, ↓ydn, ↓ydo, ↓ydp, ↓yax, yay, yaz, yba, ybb, ybc, ybd, ybe, ybf, ybg, ybh, ybi, ybj, ybk, ybl, ybm, ybn, ybo, ybp, ybq, ybr, ybs, ybt, ybu, ybv, ares, tup, ybw, ybx, yby, argsE, dval, aop, ev, evs, evo, evp, fillL, addrOf, intOf?, ybz, yca, ycb, ycc, ycd, yce, ycf, zah, zag, reduceIte, Nat.reduceEqDiff, ycg, ych, yci, ycj, yck, ycl, ycm, ycn, yco, ycp, ycq, ycr, zap, zao, reduceCtorEq, zbb, zbc, zba, zaz, Nat.reduceAdd, Nat.reduceMul, zaq, zar, eqPtr, zae, zaf, zab, zaa, zac, zad, hload, hstore, zal, zam, Nat.reduceAdd, Nat.reduceLeDiff, zbb, zas, zat, one, zau, zaw, zav, splice, zaj, zak, zab, zaa, ycs, yct, ycu, ycv, ycw, ycx, ycy, ycz, zan, zai, zax, zay, and_self, true_and, and_true, lenV, yda, Nat.le_refl, if_true, ydq, ydr, yds, ne_eq, not_true_eq_false, not_false_eq_true, ← decide_not, Decidable.not_not, ydt, ydu, ydz, ydv, ydw, List.drop_zero, eq_self, Bool.false_eq_true, List.getElem?_toArray, yea, yeb, List.nil_append, List.cons_append, Bool.false_and, Int.reduceEq, Int.reduceLT, Int.reduceLE, Int.reduceNe, zbc, zbb, yec, yed, yee, yef, ydx, ydy, sz3, tk3, ls3, g3, yem, lx2, gx2, lx3]
          refine ⟨k, by omega, i + 1, _, ⟨T.node, T.len, T.cs.take i2 ++ [shrC (s.tmod 12)] ++ T.cs.drop i2⟩, some ⟨k2, 0, none⟩, 6, by omega, rfl, ((f1.then f2).push _).set _ (.inr (Nat.le_refl _)), ?_, hTn, hput, by simp; omega, ?_, fun q => by simp at q, fun b o hb => ?_⟩
          · rw [yen (by simp; omega)]
            simp only [e1]
          · exact (hti.push _).frame (O := [H.length]) ((Frm.refl _ _).set _ (.inl (by simp))) (fun b o hb => by
              simp only [Option.some.injEq, Addr.mk.injEq, and_true] at hb
              simp; omega)
          · simp only [Option.some.injEq, Addr.mk.injEq, and_true] at hb
            have := f1.1
            omega

end Go.Proofs.Ytejcabdejoameaa.AI

/- BeaconEach holds, whatever the input. -/
set_option linter.unusedVariables false
namespace Go.Proofs.Ytejcabdejoameaa
open Go.ChangeShapes Go.WideShapes Go.ChangeAt Go.RowKit

set_option maxRecDepth 100000 in
theorem beaconEach_lifted (os : Os) (started : os.Started) (H : Type) (enc : TypeId × Value → H) :
    ReturnsInHanded {} Try.checked os 6 .any (Rows.beaconEachSpec.pre6 enc Try.prog Try.f6 Rows.beaconEachRow.domain false) (Rows.beaconEachSpec.post enc Try.prog Try.f6 false true false false) := by
  refine returnsInHanded_of_change (C := Try.checked) AI.own started (by kernel_rfl) Try.func6
    (ChangeSpec.witness6 (enc := enc) (C := Try.checked) false ⟨#[], #[.slice none 0 0, .int .u8 0, .int .u8 0, .int .u16 0], []⟩ 8 (by kernel_rfl) (by kernel_rfl) (by kernel_rfl) (by kernel_rfl)) ?_
  intro W base args ds gs before hval0 hW hcnd _
  have hval : ∀ (j : Nat) t v, Try.f6.params[j]? = some t → args[j]? = some v → Value.okWide Try.prog W .any base t v := hval0
  have hW' := hW
  obtain ⟨p, q, hA0, hV, rfl, hfz, hnd⟩ := hW
  have hA : DataW.TrodAll enc Try.prog W 0 (fun _ => true) true Try.f6.params.toList args.toList ds p := hA0
  rw [Try.params6] at hA hval
  obtain ⟨args⟩ := args
  have hA : DataW.TrodAll enc Try.prog W 0 (fun _ => true) true _ args ds p := hA
  obtain ⟨v0, args0, d0, ds0, p0, q0, rfl, rfl, rfl, h0, t0⟩ := trodAll_cons hA
  obtain ⟨v1, args1, d1, ds1, p1, q1, rfl, rfl, rfl, h1, t1⟩ := trodAll_cons t0
  obtain ⟨v2, args2, d2, ds2, p2, q2, rfl, rfl, rfl, h2, t2⟩ := trodAll_cons t1
  obtain ⟨v3, args3, d3, ds3, p3, q3, rfl, rfl, rfl, h3, t3⟩ := trodAll_cons t2
  obtain ⟨rfl, rfl, rfl⟩ := trodAll_nil t3
  obtain ⟨rfl, rfl⟩ := trodVars_none hV
  obtain ⟨l0, a0, z0, B0, k0, r0, e0, H0, R0, s0, ok0, n0⟩ := AI.u8s_arg (AI.arg_slice Try.underlying40 (hval 0 40 v0 rfl rfl) h0 (d := 9) (els := [.int .u8]) (by kernel_rfl)) (AI.HR0 W) AI.ro0
  obtain ⟨x1, rfl, rfl, rfl, ok1⟩ := open_int Try.underlying5 (hval 1 5 v1 rfl rfl) h1
  obtain ⟨x2, rfl, rfl, rfl, ok2⟩ := open_int Try.underlying5 (hval 2 5 v2 rfl rfl) h2
  obtain ⟨x3, rfl, rfl, rfl, ok3⟩ := open_int Try.underlying41 (hval 3 41 v3 rfl rfl) h3
  clear hA0 hval0
  have hc := AI.law_calls (k := 104) (AI.beach (s0) ok0 n0 (AI.u8_wf' ok1) (AI.u8_wf' ok2) (AI.u16_wf' ok3)) H0 R0 (.cons r0 (.cons (.atom _ rfl) (.cons (.atom _ rfl) (.cons (.atom _ rfl) .nil))))
  refine hc.mono fun e W' ⟨he, hb⟩ => ?_
  subst he
  exact ⟨_, rfl, AI.law_post AI.laidOut hW' rfl rfl (by rw [Try.params6]; intro t ht; simp at ht; rcases ht with rfl | rfl | rfl | rfl <;> exact ⟨by kernel_rfl, of_decide_eq_true (by kernel_rfl)⟩) hb
    (fun _ _ _ => trodAll_mk1 (shut_bool Try.underlying4 _)) (ok_one (by kernel_rfl) rfl (okWide_bool_mk Try.underlying4 _))⟩

theorem beaconEach_holds : Rows.BeaconEachSaid :=
  OpenClaim.holds_of_wide 6 Try.f6 rfl rfl rfl rfl rfl rfl rfl ⟨rfl, rfl, rfl, rfl, rfl⟩ rfl rfl rfl rfl rfl (by kernel_rfl) Try.func6 (by kernel_rfl)
    (of_decide_eq_true (by kernel_rfl)) (by unfold Func.isWrapper; first | (rw [if_pos (by decide +kernel)]; kernel_rfl) | (rw [if_neg (by decide +kernel)]; exact ⟨rfl, rfl⟩))
    (fun os started H enc _ => beaconEach_lifted os started H enc)

end Go.Proofs.Ytejcabdejoameaa

