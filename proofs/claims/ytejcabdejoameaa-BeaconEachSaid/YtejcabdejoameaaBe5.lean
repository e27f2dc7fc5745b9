/- What is proved on the way to BeaconEach, part 5: an interpreter of the code, its soundness, and what the functions answer. -/
import Derived.Calls
import Derived.Orders
import Derived.RowKit3
import Derived.KernelRfl
import Derived.WalkKit
import Derived.Laws.IdiomStrings
import Derived.Laws.StructEq
import Derived.LoopN
import Derived.Test.YtejcabdejoameaaRows
import Derived.ProofKit
import Derived.OpenShut
import Derived.Test.YtejcabdejoameaaBe4
/- Cells and their tables. -/
set_option linter.unusedSimpArgs false
set_option linter.unusedVariables false
set_option maxHeartbeats 4000000
namespace Go.Proofs.Ytejcabdejoameaa.AI
open Go

structure TC where
  s : Int
  c : Int
  w : Int
  b : Bool
  p : Int
  n : Int
def TC.cells (x : TC) : List Value := [.int .i64 x.s, .int .i64 x.c, .int .i64 x.w, .bool x.b, .int .i64 x.p, .int .i64 x.n]
def TC.v (x : TC) : Value := .agg #[.int .i64 x.s, .int .i64 x.c, .int .i64 x.w, .bool x.b, .int .i64 x.p, .int .i64 x.n]
structure Tb where
  node : Int
  len : Int
  cs : List TC
def Tb.v (t : Tb) (a : Option Addr) (z : Nat) : Value := .agg #[.int .i64 t.node, .int .i64 t.len, .slice a t.cs.length z]
def TC.Lt (a b : TC) : Prop := a.s < b.s ∨ a.s = b.s ∧ a.w < b.w
def TC.Form (x : TC) (node len : Int) : Prop := (1 ≤ x.w ∧ x.w ≤ 3) ∧ (x.w = 1 ∨ x.n = -1) ∧ (x.w = 3 → x.p = -1 ∧ x.b = false) ∧ (0 ≤ x.s ∧ x.s < len) ∧ (0 ≤ x.c ∧ x.c < 16) ∧ (x.w = 3 ∨ ((0 ≤ x.p ∧ x.p < 32) ∧ x.p ≠ node)) ∧ (x.w = 1 → 0 ≤ x.n)
structure Tb.Ok (t : Tb) : Prop where
  node : 0 ≤ t.node ∧ t.node < 32
  len : 1 ≤ t.len ∧ t.len ≤ 512
  few : t.cs.length ≤ 512
  form : ∀ (i : Nat) (x : TC), t.cs[i]? = some x → x.Form t.node t.len
  lt : ∀ (i : Nat) (x y : TC), t.cs[i]? = some x → t.cs[i + 1]? = some y → x.Lt y

/-- Some cells in the memory. -/
def TI (H : Heap) (a : Option Addr) (z : Nat) (l : List TC) : Prop := ∀ (i : Nat) (x : TC), l[i]? = some x → ∃ b o w cs, a = some ⟨b, o, none⟩ ∧ z = 6 ∧ hget H b = some ⟨w, cs⟩ ∧ o + i * 6 + 6 ≤ cs.length ∧ List.take 6 (List.drop (o + i * 6) cs) = [.int .i64 x.s, .int .i64 x.c, .int .i64 x.w, .bool x.b, .int .i64 x.p, .int .i64 x.n] ∧ cs[o + i * 6]? = some (.int .i64 x.s)
theorem TI.frame {H H' : Heap} {a : Option Addr} {z : Nat} {l : List TC} (h : TI H a z l) {O : List Nat} (f : Frm O H H') (hO : ∀ b o, a = some ⟨b, o, none⟩ → b ∉ O) : TI H' a z l := by
  intro i x hx
  obtain ⟨b, o, w, cs, h1, h2, h3, h4⟩ := h i x hx
  exact ⟨b, o, w, cs, h1, h2, by rw [f.2 b (hget_lt h3) (hO b o h1)]; exact h3, h4⟩
theorem TI.frame0 {H H' : Heap} {a : Option Addr} {z : Nat} {l : List TC} (h : TI H a z l) (f : Frm [] H H') : TI H' a z l := h.frame f (by simp)
theorem TI.push {H : Heap} {a : Option Addr} {z : Nat} {l : List TC} (h : TI H a z l) (b : Option Blk) : TI (H ++ [b]) a z l := h.frame0 ((Frm.refl _ _).push b)

theorem tk6 (a b c d e f : Value) : List.take 6 [a, b, c, d, e, f] = [a, b, c, d, e, f] := rfl
theorem ls6 (a b c d e f : Value) : [a, b, c, d, e, f].toArray = #[a, b, c, d, e, f] := rfl
theorem sz6 (a b c d e f : Value) : (#[a, b, c, d, e, f] : Array Value).size = 6 := rfl
theorem tk3 (a b c : Value) : List.take 3 [a, b, c] = [a, b, c] := rfl
theorem ls3 (a b c : Value) : [a, b, c].toArray = #[a, b, c] := rfl

theorem f168 (x : Int) (H : Heap) : AC tbl 168 [.int .i64 x] H = some (.bool (decide (0 ≤ x ∧ x < 32)), H) := by
  refine AC_iso (F := F168) rfl (by simp [F168]) rfl rfl rfl ?_ H
  apply AC_eq
  apply AC_wp (F := F168) rfl (by simp [F168]) (.inr rfl)
  unfold F168
  (repeat' (first | simp only [↓yaa, ↓yab, ↓yac, ↓yad, ↓yae, ↓yaf, ↓yag, ↓yah, ↓yai, ↓ydb, ↓ydc, ↓ydd, ↓yde, ↓ydf, ↓ydg, ↓yao, ↓yap, ↓ydh, ↓ydi, ↓ydj, ↓ydk, ↓ydl, ↓ydm, ↓ydn, ↓ydo, ↓ydp, ↓yax, yay, yaz, yba, ybb, ybc, ybd, ybe, ybf, ybg, ybh, ybi, ybj, ybk, ybl, ybm, ybn, ybo, ybp, ybq, ybr, ybs, ybt, ybu, ybv, ares, tup, ybw, ybx, yby, argsE, dval, aop, ev, evs, evo, evp, fillL, addrOf, intOf?, ybz, yca, ycb, ycc, ycd, yce, ycf, zah, zag, reduceIte, Nat.reduceEqDiff, ycg, ych, yci, ycj, yck, ycl, ycm, ycn, yco, ycp, ycq, ycr, zap, zao, reduceCtorEq, zbb, zbc, zba, zaz, Nat.reduceAdd, Nat.reduceMul, zaq, zar, eqPtr, zae, zaf, zab, zaa, zac, zad, hload, hstore, zal, zam, Nat.reduceAdd, Nat.reduceLeDiff, zbb, zas, zat, one, zau, zaw, zav, splice, zaj, zak, zab, zaa, ycs, yct, ycu, ycv, ycw, ycx, ycy, ycz, zan, zai, zax, zay, and_self, true_and, and_true, lenV, yda, Nat.le_refl, if_true, ydq, ydr, yds, ne_eq, not_true_eq_false, not_false_eq_true, ← decide_not, Decidable.not_not, ydt, ydu, ydz, ydv, ydw, List.drop_zero, eq_self, Bool.false_eq_true, List.getElem?_toArray, yea, yeb, List.nil_append, List.cons_append, Bool.false_and, Int.reduceEq, Int.reduceLT, Int.reduceLE, Int.reduceNe, zbc, zbb, yec, yed, yee, yef, ydx, ydy, false_and, *] | refine yeg (fun _ => ?_) (fun _ => ?_) | refine yeh (fun _ => ?_) (fun _ => ?_) | refine yei (fun _ => ?_) (fun _ => ?_) | refine yej (fun _ => ?_) (fun _ => ?_) | refine yek (fun _ => ?_) (fun _ => ?_) | refine yel (fun _ => ?_) (fun _ => ?_)))

theorem f169k {x : TC} {node len : Int} {K : Value → Heap → Prop} (hk : ∀ n : Int, (n = 0 ↔ x.Form node len) → K (.int .i64 n) []) : Op1 (AC tbl 169 [x.v, .int .i64 node, .int .i64 len] []) K := by
  apply AC_wp (F := F169) rfl (by simp [F169]) (.inr rfl)
  unfold F169 TC.v
  cases hb : x.b <;>
  · (repeat' (first | simp only [↓yaa, ↓yab, ↓yac, ↓yad, ↓yae, ↓yaf, ↓yag, ↓yah, ↓yai, ↓ydb, ↓ydc, ↓ydd, ↓yde, ↓ydf, ↓ydg, ↓yao, ↓yap, ↓ydh, ↓ydi, ↓ydj, ↓ydk, ↓ydl, ↓ydm, ↓ydn, ↓ydo, ↓ydp, ↓yax, yay, yaz, yba, ybb, ybc, ybd, ybe, ybf, ybg, ybh, ybi, ybj, ybk, ybl, ybm, ybn, ybo, ybp, ybq, ybr, ybs, ybt, ybu, ybv, ares, tup, ybw, ybx, yby, argsE, dval, aop, ev, evs, evo, evp, fillL, addrOf, intOf?, ybz, yca, ycb, ycc, ycd, yce, ycf, zah, zag, reduceIte, Nat.reduceEqDiff, ycg, ych, yci, ycj, yck, ycl, ycm, ycn, yco, ycp, ycq, ycr, zap, zao, reduceCtorEq, zbb, zbc, zba, zaz, Nat.reduceAdd, Nat.reduceMul, zaq, zar, eqPtr, zae, zaf, zab, zaa, zac, zad, hload, hstore, zal, zam, Nat.reduceAdd, Nat.reduceLeDiff, zbb, zas, zat, one, zau, zaw, zav, splice, zaj, zak, zab, zaa, ycs, yct, ycu, ycv, ycw, ycx, ycy, ycz, zan, zai, zax, zay, and_self, true_and, and_true, lenV, yda, Nat.le_refl, if_true, ydq, ydr, yds, ne_eq, not_true_eq_false, not_false_eq_true, ← decide_not, Decidable.not_not, ydt, ydu, ydz, ydv, ydw, List.drop_zero, eq_self, Bool.false_eq_true, List.getElem?_toArray, yea, yeb, List.nil_append, List.cons_append, Bool.false_and, Int.reduceEq, Int.reduceLT, Int.reduceLE, Int.reduceNe, zbc, zbb, yec, yed, yee, yef, ydx, ydy, f168, hb, tk6, ls6, *] | refine yeg (fun _ => ?_) (fun _ => ?_) | refine yeh (fun _ => ?_) (fun _ => ?_) | refine yei (fun _ => ?_) (fun _ => ?_) | refine yej (fun _ => ?_) (fun _ => ?_) | refine yek (fun _ => ?_) (fun _ => ?_) | refine yel (fun _ => ?_) (fun _ => ?_)))
    all_goals (refine hk _ ?_; clear hk; unfold TC.Form; simp only [hb, and_true, and_false, reduceCtorEq, Int.reduceEq, true_iff, false_iff, not_and, not_or, imp_false]; (try simp only [decide_eq_false_iff_not, decide_eq_true_eq] at *); omega)
theorem f169 (x : TC) (node len : Int) : ∃ n : Int, (n = 0 ↔ x.Form node len) ∧ ∀ H, AC tbl 169 [x.v, .int .i64 node, .int .i64 len] H = some (.int .i64 n, H) := by
  have h : Op1 (AC tbl 169 [x.v, .int .i64 node, .int .i64 len] []) fun v H' => ∃ n : Int, (n = 0 ↔ x.Form node len) ∧ v = .int .i64 n ∧ H' = [] := f169k fun n hn => ⟨n, hn, rfl, rfl⟩
  obtain ⟨v, H', e, n, hn, rfl, rfl⟩ := h
  exact ⟨n, hn, fun H => AC_iso (F := F169) rfl (by simp [F169]) rfl rfl rfl e H⟩

theorem f144 {H : Heap} {x : TC} {t : Tb} {a : Option Addr} {z : Nat} {K : Value → Heap → Prop} (hk : ∀ H' (n : Int), Frm [] H H' → (n = 0 ↔ x.Form t.node t.len) → K (.int .i64 n) H') : Op1 (AC tbl 144 [t.v a z, x.v] H) K := by
  apply AC_wp (F := F144) rfl (by simp [F144]) (.inl rfl)
  unfold F144 TC.v Tb.v
  have f0 : ∀ b c, Frm [] H (H ++ [b] ++ [c]) := fun b c => ((Frm.refl _ _).push b).push c
  cases hb : x.b <;>
  · (repeat' (first | simp only [↓yaa, ↓yab, ↓yac, ↓yad, ↓yae, ↓yaf, ↓yag, ↓yah, ↓yai, ↓ydb, ↓ydc, ↓ydd, ↓yde, ↓ydf, ↓ydg, ↓yao, ↓yap, ↓ydh, ↓ydi, ↓ydj, ↓ydk, ↓ydl, ↓ydm, ↓ydn, ↓ydo, ↓ydp, ↓yax, yay, yaz, yba, ybb, ybc, ybd, ybe, ybf, ybg, ybh, ybi, ybj, ybk, ybl, ybm, ybn, ybo, ybp, ybq, ybr, ybs, ybt, ybu, ybv, ares, tup, ybw, ybx, yby, argsE, dval, aop, ev, evs, evo, evp, fillL, addrOf, intOf?, ybz, yca, ycb, ycc, ycd, yce, ycf, zah, zag, reduceIte, Nat.reduceEqDiff, ycg, ych, yci, ycj, yck, ycl, ycm, ycn, yco, ycp, ycq, ycr, zap, zao, reduceCtorEq, zbb, zbc, zba, zaz, Nat.reduceAdd, Nat.reduceMul, zaq, zar, eqPtr, zae, zaf, zab, zaa, zac, zad, hload, hstore, zal, zam, Nat.reduceAdd, Nat.reduceLeDiff, zbb, zas, zat, one, zau, zaw, zav, splice, zaj, zak, zab, zaa, ycs, yct, ycu, ycv, ycw, ycx, ycy, ycz, zan, zai, zax, zay, and_self, true_and, and_true, lenV, yda, Nat.le_refl, if_true, ydq, ydr, yds, ne_eq, not_true_eq_false, not_false_eq_true, ← decide_not, Decidable.not_not, ydt, ydu, ydz, ydv, ydw, List.drop_zero, eq_self, Bool.false_eq_true, List.getElem?_toArray, yea, yeb, List.nil_append, List.cons_append, Bool.false_and, Int.reduceEq, Int.reduceLT, Int.reduceLE, Int.reduceNe, zbc, zbb, yec, yed, yee, yef, ydx, ydy, hb, tk6, ls6, *] | refine yeg (fun _ => ?_) (fun _ => ?_) | refine yeh (fun _ => ?_) (fun _ => ?_) | refine yei (fun _ => ?_) (fun _ => ?_) | refine yej (fun _ => ?_) (fun _ => ?_) | refine yek (fun _ => ?_) (fun _ => ?_) | refine yel (fun _ => ?_) (fun _ => ?_)))
    all_goals (refine hk _ _ (f0 _ _) ?_; clear hk f0; unfold TC.Form; simp only [hb, and_true, and_false, reduceCtorEq, Int.reduceEq, true_iff, false_iff, not_and, not_or, imp_false]; (try simp only [decide_eq_false_iff_not, decide_eq_true_eq] at *); omega)

theorem f157 (x y : TC) (H : Heap) : ∃ p : Bool, (p = true ↔ x.Lt y) ∧ AC tbl 157 [x.v, y.v] H = some (.bool p, H) := by
  have h : Op1 (AC tbl 157 [x.v, y.v] []) fun v H' => ∃ p : Bool, (p = true ↔ x.Lt y) ∧ v = .bool p ∧ H' = [] := by
    have key : ∀ K : Value → Heap → Prop, (∀ p : Bool, (p = true ↔ x.Lt y) → K (.bool p) []) → Op1 (AC tbl 157 [x.v, y.v] []) K := by
      intro K hk
      apply AC_wp (F := F157) rfl (by simp [F157]) (.inr rfl)
      unfold F157 TC.v
      (repeat' (first | simp only [↓yaa, ↓yab, ↓yac, ↓yad, ↓yae, ↓yaf, ↓yag, ↓yah, ↓yai, ↓ydb, ↓ydc, ↓ydd, ↓yde, ↓ydf, ↓ydg, ↓yao, ↓yap, ↓ydh, ↓ydi, ↓ydj, ↓ydk, ↓ydl, ↓ydm, ↓ydn, ↓ydo, ↓ydp, ↓yax, yay, yaz, yba, ybb, ybc, ybd, ybe, ybf, ybg, ybh, ybi, ybj, ybk, ybl, ybm, ybn, ybo, ybp, ybq, ybr, ybs, ybt, ybu, ybv, ares, tup, ybw, ybx, yby, argsE, dval, aop, ev, evs, evo, evp, fillL, addrOf, intOf?, ybz, yca, ycb, ycc, ycd, yce, ycf, zah, zag, reduceIte, Nat.reduceEqDiff, ycg, ych, yci, ycj, yck, ycl, ycm, ycn, yco, ycp, ycq, ycr, zap, zao, reduceCtorEq, zbb, zbc, zba, zaz, Nat.reduceAdd, Nat.reduceMul, zaq, zar, eqPtr, zae, zaf, zab, zaa, zac, zad, hload, hstore, zal, zam, Nat.reduceAdd, Nat.reduceLeDiff, zbb, zas, zat, one, zau, zaw, zav, splice, zaj, zak, zab, zaa, ycs, yct, ycu, ycv, ycw, ycx, ycy, ycz, zan, zai, zax, zay, and_self, true_and, and_true, lenV, yda, Nat.le_refl, if_true, ydq, ydr, yds, ne_eq, not_true_eq_false, not_false_eq_true, ← decide_not, Decidable.not_not, ydt, ydu, ydz, ydv, ydw, List.drop_zero, eq_self, Bool.false_eq_true, List.getElem?_toArray, yea, yeb, List.nil_append, List.cons_append, Bool.false_and, Int.reduceEq, Int.reduceLT, Int.reduceLE, Int.reduceNe, zbc, zbb, yec, yed, yee, yef, ydx, ydy, tk6, ls6, *] | refine yeg (fun _ => ?_) (fun _ => ?_) | refine yeh (fun _ => ?_) (fun _ => ?_) | refine yei (fun _ => ?_) (fun _ => ?_) | refine yej (fun _ => ?_) (fun _ => ?_) | refine yek (fun _ => ?_) (fun _ => ?_) | refine yel (fun _ => ?_) (fun _ => ?_)))
      all_goals (refine hk _ ?_; clear hk; unfold TC.Lt; simp only [decide_eq_true_eq, reduceCtorEq, true_iff, false_iff]; (try simp only [decide_eq_false_iff_not, decide_eq_true_eq] at *); omega)
    exact key _ fun p hp => ⟨p, hp, rfl, rfl⟩
  obtain ⟨v, H', e, p, hp, rfl, rfl⟩ := h
  exact ⟨p, hp, AC_iso (F := F157) rfl (by simp [F157]) rfl rfl rfl e H⟩

def cmpI (a b : Int) : Int := if a < b then -1 else if b < a then 1 else 0
theorem f171 (x : Int) (H : Heap) : AC tbl 171 [.int .i64 x] H = some (.bool false, H) := by
  refine AC_iso (F := F171) rfl (by simp [F171]) rfl rfl rfl ?_ H
  apply AC_eq
  apply AC_wp (F := F171) rfl (by simp [F171]) (.inr rfl)
  unfold F171
  (repeat' (first | simp only [↓yaa, ↓yab, ↓yac, ↓yad, ↓yae, ↓yaf, ↓yag, ↓yah, ↓yai, ↓ydb, ↓ydc, ↓ydd, ↓yde, ↓ydf, ↓ydg, ↓yao, ↓yap, ↓ydh, ↓ydi, ↓ydj, ↓ydk, ↓ydl, ↓ydm, ↓ydn, ↓ydo, ↓ydp, ↓yax, yay, yaz, yba, ybb, ybc, ybd, ybe, ybf, ybg, ybh, ybi, ybj, ybk, ybl, ybm, ybn, ybo, ybp, ybq, ybr, ybs, ybt, ybu, ybv, ares, tup, ybw, ybx, yby, argsE, dval, aop, ev, evs, evo, evp, fillL, addrOf, intOf?, ybz, yca, ycb, ycc, ycd, yce, ycf, zah, zag, reduceIte, Nat.reduceEqDiff, ycg, ych, yci, ycj, yck, ycl, ycm, ycn, yco, ycp, ycq, ycr, zap, zao, reduceCtorEq, zbb, zbc, zba, zaz, Nat.reduceAdd, Nat.reduceMul, zaq, zar, eqPtr, zae, zaf, zab, zaa, zac, zad, hload, hstore, zal, zam, Nat.reduceAdd, Nat.reduceLeDiff, zbb, zas, zat, one, zau, zaw, zav, splice, zaj, zak, zab, zaa, ycs, yct, ycu, ycv, ycw, ycx, ycy, ycz, zan, zai, zax, zay, and_self, true_and, and_true, lenV, yda, Nat.le_refl, if_true, ydq, ydr, yds, ne_eq, not_true_eq_false, not_false_eq_true, ← decide_not, Decidable.not_not, ydt, ydu, ydz, ydv, ydw, List.drop_zero, eq_self, Bool.false_eq_true, List.getElem?_toArray, yea, yeb, List.nil_append, List.cons_append, Bool.false_and, Int.reduceEq, Int.reduceLT, Int.reduceLE, Int.reduceNe, zbc, zbb, yec, yed, yee, yef, ydx, ydy, *] | refine yeg (fun _ => ?_) (fun _ => ?_) | refine yeh (fun _ => ?_) (fun _ => ?_) | refine yei (fun _ => ?_) (fun _ => ?_) | refine yej (fun _ => ?_) (fun _ => ?_) | refine yek (fun _ => ?_) (fun _ => ?_) | refine yel (fun _ => ?_) (fun _ => ?_)))
theorem f160 (x y : Int) (H : Heap) : AC tbl 160 [.int .i64 x, .int .i64 y] H = some (.int .i64 (cmpI x y), H) := by
  refine AC_iso (F := F160) rfl (by simp [F160]) rfl rfl rfl ?_ H
  apply AC_eq
  apply AC_wp (F := F160) rfl (by simp [F160]) (.inr rfl)
  unfold F160
  unfold cmpI
  by_cases h1 : x < y
  · simp only [↓yaa, ↓yab, ↓yac, ↓yad, ↓yae, ↓yaf, ↓yag, ↓yah, ↓yai, ↓ydb, ↓ydc, ↓ydd, ↓yde, ↓ydf, ↓ydg, ↓yao, ↓yap, ↓ydh, ↓ydi, ↓ydj, ↓ydk, ↓ydl, ↓ydm, ↓ydn, ↓ydo, ↓ydp, ↓yax, yay, yaz, yba, ybb, ybc, ybd, ybe, ybf, ybg, ybh, ybi, ybj, ybk, ybl, ybm, ybn, ybo, ybp, ybq, ybr, ybs, ybt, ybu, ybv, ares, tup, ybw, ybx, yby, argsE, dval, aop, ev, evs, evo, evp, fillL, addrOf, intOf?, ybz, yca, ycb, ycc, ycd, yce, ycf, zah, zag, reduceIte, Nat.reduceEqDiff, ycg, ych, yci, ycj, yck, ycl, ycm, ycn, yco, ycp, ycq, ycr, zap, zao, reduceCtorEq, zbb, zbc, zba, zaz, Nat.reduceAdd, Nat.reduceMul, zaq, zar, eqPtr, zae, zaf, zab, zaa, zac, zad, hload, hstore, zal, zam, Nat.reduceAdd, Nat.reduceLeDiff, zbb, zas, zat, one, zau, zaw, zav, splice, zaj, zak, zab, zaa, ycs, yct, ycu, ycv, ycw, ycx, ycy, ycz, zan, zai, zax, zay, and_self, true_and, and_true, lenV, yda, Nat.le_refl, if_true, ydq, ydr, yds, ne_eq, not_true_eq_false, not_false_eq_true, ← decide_not, Decidable.not_not, ydt, ydu, ydz, ydv, ydw, List.drop_zero, eq_self, Bool.false_eq_true, List.getElem?_toArray, yea, yeb, List.nil_append, List.cons_append, Bool.false_and, Int.reduceEq, Int.reduceLT, Int.reduceLE, Int.reduceNe, zbc, zbb, yec, yed, yee, yef, ydx, ydy, f171, h1]
  · by_cases h2 : y < x <;> simp only [↓yaa, ↓yab, ↓yac, ↓yad, ↓yae, ↓yaf, ↓yag, ↓yah, ↓yai, ↓ydb, ↓ydc, ↓ydd, ↓yde, ↓ydf, ↓ydg, ↓yao, ↓yap, ↓ydh, ↓ydi, ↓ydj, ↓ydk, ↓ydl, ↓ydm, ↓ydn, ↓ydo, ↓ydp, ↓yax, yay, yaz, yba, ybb, ybc, ybd, ybe, ybf, ybg, ybh, ybi, ybj, ybk, ybl, ybm, ybn, ybo, ybp, ybq, ybr, ybs, ybt, ybu, ybv, ares, tup, ybw, ybx, yby, argsE, dval, aop, ev, evs, evo, evp, fillL, addrOf, intOf?, ybz, yca, ycb, ycc, ycd, yce, ycf, zah, zag, reduceIte, Nat.reduceEqDiff, ycg, ych, yci, ycj, yck, ycl, ycm, ycn, yco, ycp, ycq, ycr, zap, zao, reduceCtorEq, zbb, zbc, zba, zaz, Nat.reduceAdd, Nat.reduceMul, zaq, zar, eqPtr, zae, zaf, zab, zaa, zac, zad, hload, hstore, zal, zam, Nat.reduceAdd, Nat.reduceLeDiff, zbb, zas, zat, one, zau, zaw, zav, splice, zaj, zak, zab, zaa, ycs, yct, ycu, ycv, ycw, ycx, ycy, ycz, zan, zai, zax, zay, and_self, true_and, and_true, lenV, yda, Nat.le_refl, if_true, ydq, ydr, yds, ne_eq, not_true_eq_false, not_false_eq_true, ← decide_not, Decidable.not_not, ydt, ydu, ydz, ydv, ydw, List.drop_zero, eq_self, Bool.false_eq_true, List.getElem?_toArray, yea, yeb, List.nil_append, List.cons_append, Bool.false_and, Int.reduceEq, Int.reduceLT, Int.reduceLE, Int.reduceNe, zbc, zbb, yec, yed, yee, yef, ydx, ydy, f171, h1, h2]
theorem f175 {H : Heap} {b : Nat} {w : Bool} {x y : Int} (hb : hget H b = some ⟨w, [.int .i64 x, .int .i64 y]⟩) : AC tbl 175 [.slice (some ⟨b, 0, none⟩) 2 1] H = some (.int .i64 (if x ≠ 0 then x else y), H) := by
  apply AC_eq
  apply AC_wp (F := F175) rfl (by simp [F175]) (.inl rfl)
  unfold F175
  have w1 : IntKind.i64.wrap (0 + 1) = 1 := by decide
  have w2 : IntKind.i64.wrap (1 + 1) = 2 := by decide
  have c2 : ((2 : Nat) : Int) = 2 := rfl
  have n0 : (0 : Int).toNat = 0 := rfl
  have n1 : (1 : Int).toNat = 1 := rfl
  simp only [↓yaa, ↓yab, ↓yac, ↓yad, ↓yae, ↓yaf, ↓yag, ↓yah, ↓yai, ↓ydb, ↓ydc, ↓ydd, ↓yde, ↓ydf, ↓ydg, ↓yao, ↓yap, ↓ydh, ↓ydi, ↓ydj, ↓ydk, ↓ydl, ↓ydm, ↓ydn, ↓ydo, ↓ydp, ↓yax, yay, yaz, yba, ybb, ybc, ybd, ybe, ybf, ybg, ybh, ybi, ybj, ybk, ybl, ybm, ybn, ybo, ybp, ybq, ybr, ybs, ybt, ybu, ybv, ares, tup, ybw, ybx, yby, argsE, dval, aop, ev, evs, evo, evp, fillL, addrOf, intOf?, ybz, yca, ycb, ycc, ycd, yce, ycf, zah, zag, reduceIte, Nat.reduceEqDiff, ycg, ych, yci, ycj, yck, ycl, ycm, ycn, yco, ycp, ycq, ycr, zap, zao, reduceCtorEq, zbb, zbc, zba, zaz, Nat.reduceAdd, Nat.reduceMul, zaq, zar, eqPtr, zae, zaf, zab, zaa, zac, zad, hload, hstore, zal, zam, Nat.reduceAdd, Nat.reduceLeDiff, zbb, zas, zat, one, zau, zaw, zav, splice, zaj, zak, zab, zaa, ycs, yct, ycu, ycv, ycw, ycx, ycy, ycz, zan, zai, zax, zay, and_self, true_and, and_true, lenV, yda, Nat.le_refl, if_true, ydq, ydr, yds, ne_eq, not_true_eq_false, not_false_eq_true, ← decide_not, Decidable.not_not, ydt, ydu, ydz, ydv, ydw, List.drop_zero, eq_self, Bool.false_eq_true, List.getElem?_toArray, yea, yeb, List.nil_append, List.cons_append, Bool.false_and, Int.reduceEq, Int.reduceLT, Int.reduceLE, Int.reduceNe, zbc, zbb, yec, yed, yee, yef, ydx, ydy, c2]
  rw [AW_loop]
  by_cases h1 : x = 0
  · simp only [↓yaa, ↓yab, ↓yac, ↓yad, ↓yae, ↓yaf, ↓yag, ↓yah, ↓yai, ↓ydb, ↓ydc, ↓ydd, ↓yde, ↓ydf, ↓ydg, ↓yao, ↓yap, ↓ydh, ↓ydi, ↓ydj, ↓ydk, ↓ydl, ↓ydm, ↓ydn, ↓ydo, ↓ydp, ↓yax, yay, yaz, yba, ybb, ybc, ybd, ybe, ybf, ybg, ybh, ybi, ybj, ybk, ybl, ybm, ybn, ybo, ybp, ybq, ybr, ybs, ybt, ybu, ybv, ares, tup, ybw, ybx, yby, argsE, dval, aop, ev, evs, evo, evp, fillL, addrOf, intOf?, ybz, yca, ycb, ycc, ycd, yce, ycf, zah, zag, reduceIte, Nat.reduceEqDiff, ycg, ych, yci, ycj, yck, ycl, ycm, ycn, yco, ycp, ycq, ycr, zap, zao, reduceCtorEq, zbb, zbc, zba, zaz, Nat.reduceAdd, Nat.reduceMul, zaq, zar, eqPtr, zae, zaf, zab, zaa, zac, zad, hload, hstore, zal, zam, Nat.reduceAdd, Nat.reduceLeDiff, zbb, zas, zat, one, zau, zaw, zav, splice, zaj, zak, zab, zaa, ycs, yct, ycu, ycv, ycw, ycx, ycy, ycz, zan, zai, zax, zay, and_self, true_and, and_true, lenV, yda, Nat.le_refl, if_true, ydq, ydr, yds, ne_eq, not_true_eq_false, not_false_eq_true, ← decide_not, Decidable.not_not, ydt, ydu, ydz, ydv, ydw, List.drop_zero, eq_self, Bool.false_eq_true, List.getElem?_toArray, yea, yeb, List.nil_append, List.cons_append, Bool.false_and, Int.reduceEq, Int.reduceLT, Int.reduceLE, Int.reduceNe, zbc, zbb, yec, yed, yee, yef, ydx, ydy, hb, h1, w1, c2, n0, n1]
    rw [AW_loop]
    by_cases h2 : y = 0
    · simp only [↓yaa, ↓yab, ↓yac, ↓yad, ↓yae, ↓yaf, ↓yag, ↓yah, ↓yai, ↓ydb, ↓ydc, ↓ydd, ↓yde, ↓ydf, ↓ydg, ↓yao, ↓yap, ↓ydh, ↓ydi, ↓ydj, ↓ydk, ↓ydl, ↓ydm, ↓ydn, ↓ydo, ↓ydp, ↓yax, yay, yaz, yba, ybb, ybc, ybd, ybe, ybf, ybg, ybh, ybi, ybj, ybk, ybl, ybm, ybn, ybo, ybp, ybq, ybr, ybs, ybt, ybu, ybv, ares, tup, ybw, ybx, yby, argsE, dval, aop, ev, evs, evo, evp, fillL, addrOf, intOf?, ybz, yca, ycb, ycc, ycd, yce, ycf, zah, zag, reduceIte, Nat.reduceEqDiff, ycg, ych, yci, ycj, yck, ycl, ycm, ycn, yco, ycp, ycq, ycr, zap, zao, reduceCtorEq, zbb, zbc, zba, zaz, Nat.reduceAdd, Nat.reduceMul, zaq, zar, eqPtr, zae, zaf, zab, zaa, zac, zad, hload, hstore, zal, zam, Nat.reduceAdd, Nat.reduceLeDiff, zbb, zas, zat, one, zau, zaw, zav, splice, zaj, zak, zab, zaa, ycs, yct, ycu, ycv, ycw, ycx, ycy, ycz, zan, zai, zax, zay, and_self, true_and, and_true, lenV, yda, Nat.le_refl, if_true, ydq, ydr, yds, ne_eq, not_true_eq_false, not_false_eq_true, ← decide_not, Decidable.not_not, ydt, ydu, ydz, ydv, ydw, List.drop_zero, eq_self, Bool.false_eq_true, List.getElem?_toArray, yea, yeb, List.nil_append, List.cons_append, Bool.false_and, Int.reduceEq, Int.reduceLT, Int.reduceLE, Int.reduceNe, zbc, zbb, yec, yed, yee, yef, ydx, ydy, hb, h1, h2, w1, w2, c2, n0, n1]
      rw [AW_loop]
      simp only [↓yaa, ↓yab, ↓yac, ↓yad, ↓yae, ↓yaf, ↓yag, ↓yah, ↓yai, ↓ydb, ↓ydc, ↓ydd, ↓yde, ↓ydf, ↓ydg, ↓yao, ↓yap, ↓ydh, ↓ydi, ↓ydj, ↓ydk, ↓ydl, ↓ydm, ↓ydn, ↓ydo, ↓ydp, ↓yax, yay, yaz, yba, ybb, ybc, ybd, ybe, ybf, ybg, ybh, ybi, ybj, ybk, ybl, ybm, ybn, ybo, ybp, ybq, ybr, ybs, ybt, ybu, ybv, ares, tup, ybw, ybx, yby, argsE, dval, aop, ev, evs, evo, evp, fillL, addrOf, intOf?, ybz, yca, ycb, ycc, ycd, yce, ycf, zah, zag, reduceIte, Nat.reduceEqDiff, ycg, ych, yci, ycj, yck, ycl, ycm, ycn, yco, ycp, ycq, ycr, zap, zao, reduceCtorEq, zbb, zbc, zba, zaz, Nat.reduceAdd, Nat.reduceMul, zaq, zar, eqPtr, zae, zaf, zab, zaa, zac, zad, hload, hstore, zal, zam, Nat.reduceAdd, Nat.reduceLeDiff, zbb, zas, zat, one, zau, zaw, zav, splice, zaj, zak, zab, zaa, ycs, yct, ycu, ycv, ycw, ycx, ycy, ycz, zan, zai, zax, zay, and_self, true_and, and_true, lenV, yda, Nat.le_refl, if_true, ydq, ydr, yds, ne_eq, not_true_eq_false, not_false_eq_true, ← decide_not, Decidable.not_not, ydt, ydu, ydz, ydv, ydw, List.drop_zero, eq_self, Bool.false_eq_true, List.getElem?_toArray, yea, yeb, List.nil_append, List.cons_append, Bool.false_and, Int.reduceEq, Int.reduceLT, Int.reduceLE, Int.reduceNe, zbc, zbb, yec, yed, yee, yef, ydx, ydy, hb, h1, h2, w1, w2, c2, n0, n1]
    · simp only [↓yaa, ↓yab, ↓yac, ↓yad, ↓yae, ↓yaf, ↓yag, ↓yah, ↓yai, ↓ydb, ↓ydc, ↓ydd, ↓yde, ↓ydf, ↓ydg, ↓yao, ↓yap, ↓ydh, ↓ydi, ↓ydj, ↓ydk, ↓ydl, ↓ydm, ↓ydn, ↓ydo, ↓ydp, ↓yax, yay, yaz, yba, ybb, ybc, ybd, ybe, ybf, ybg, ybh, ybi, ybj, ybk, ybl, ybm, ybn, ybo, ybp, ybq, ybr, ybs, ybt, ybu, ybv, ares, tup, ybw, ybx, yby, argsE, dval, aop, ev, evs, evo, evp, fillL, addrOf, intOf?, ybz, yca, ycb, ycc, ycd, yce, ycf, zah, zag, reduceIte, Nat.reduceEqDiff, ycg, ych, yci, ycj, yck, ycl, ycm, ycn, yco, ycp, ycq, ycr, zap, zao, reduceCtorEq, zbb, zbc, zba, zaz, Nat.reduceAdd, Nat.reduceMul, zaq, zar, eqPtr, zae, zaf, zab, zaa, zac, zad, hload, hstore, zal, zam, Nat.reduceAdd, Nat.reduceLeDiff, zbb, zas, zat, one, zau, zaw, zav, splice, zaj, zak, zab, zaa, ycs, yct, ycu, ycv, ycw, ycx, ycy, ycz, zan, zai, zax, zay, and_self, true_and, and_true, lenV, yda, Nat.le_refl, if_true, ydq, ydr, yds, ne_eq, not_true_eq_false, not_false_eq_true, ← decide_not, Decidable.not_not, ydt, ydu, ydz, ydv, ydw, List.drop_zero, eq_self, Bool.false_eq_true, List.getElem?_toArray, yea, yeb, List.nil_append, List.cons_append, Bool.false_and, Int.reduceEq, Int.reduceLT, Int.reduceLE, Int.reduceNe, zbc, zbb, yec, yed, yee, yef, ydx, ydy, hb, h1, h2, w1, w2, c2, n0, n1]
  · simp only [↓yaa, ↓yab, ↓yac, ↓yad, ↓yae, ↓yaf, ↓yag, ↓yah, ↓yai, ↓ydb, ↓ydc, ↓ydd, ↓yde, ↓ydf, ↓ydg, ↓yao, ↓yap, ↓ydh, ↓ydi, ↓ydj, ↓ydk, ↓ydl, ↓ydm, ↓ydn, ↓ydo, ↓ydp, ↓yax, yay, yaz, yba, ybb, ybc, ybd, ybe, ybf, ybg, ybh, ybi, ybj, ybk, ybl, ybm, ybn, ybo, ybp, ybq, ybr, ybs, ybt, ybu, ybv, ares, tup, ybw, ybx, yby, argsE, dval, aop, ev, evs, evo, evp, fillL, addrOf, intOf?, ybz, yca, ycb, ycc, ycd, yce, ycf, zah, zag, reduceIte, Nat.reduceEqDiff, ycg, ych, yci, ycj, yck, ycl, ycm, ycn, yco, ycp, ycq, ycr, zap, zao, reduceCtorEq, zbb, zbc, zba, zaz, Nat.reduceAdd, Nat.reduceMul, zaq, zar, eqPtr, zae, zaf, zab, zaa, zac, zad, hload, hstore, zal, zam, Nat.reduceAdd, Nat.reduceLeDiff, zbb, zas, zat, one, zau, zaw, zav, splice, zaj, zak, zab, zaa, ycs, yct, ycu, ycv, ycw, ycx, ycy, ycz, zan, zai, zax, zay, and_self, true_and, and_true, lenV, yda, Nat.le_refl, if_true, ydq, ydr, yds, ne_eq, not_true_eq_false, not_false_eq_true, ← decide_not, Decidable.not_not, ydt, ydu, ydz, ydv, ydw, List.drop_zero, eq_self, Bool.false_eq_true, List.getElem?_toArray, yea, yeb, List.nil_append, List.cons_append, Bool.false_and, Int.reduceEq, Int.reduceLT, Int.reduceLE, Int.reduceNe, zbc, zbb, yec, yed, yee, yef, ydx, ydy, hb, h1, w1, c2, n0, n1]
theorem f159 (x : TC) (k : Int) (H : Heap) : AC tbl 159 [x.v, .int .i64 k] H = some (.int .i64 (cmpI x.s k), H) := by
  refine AC_iso (F := F159) rfl (by simp [F159]) rfl rfl rfl ?_ H
  apply AC_eq
  apply AC_wp (F := F159) rfl (by simp [F159]) (.inr rfl)
  unfold F159 TC.v
  (repeat' (first | simp only [↓yaa, ↓yab, ↓yac, ↓yad, ↓yae, ↓yaf, ↓yag, ↓yah, ↓yai, ↓ydb, ↓ydc, ↓ydd, ↓yde, ↓ydf, ↓ydg, ↓yao, ↓yap, ↓ydh, ↓ydi, ↓ydj, ↓ydk, ↓ydl, ↓ydm, ↓ydn, ↓ydo, ↓ydp, ↓yax, yay, yaz, yba, ybb, ybc, ybd, ybe, ybf, ybg, ybh, ybi, ybj, ybk, ybl, ybm, ybn, ybo, ybp, ybq, ybr, ybs, ybt, ybu, ybv, ares, tup, ybw, ybx, yby, argsE, dval, aop, ev, evs, evo, evp, fillL, addrOf, intOf?, ybz, yca, ycb, ycc, ycd, yce, ycf, zah, zag, reduceIte, Nat.reduceEqDiff, ycg, ych, yci, ycj, yck, ycl, ycm, ycn, yco, ycp, ycq, ycr, zap, zao, reduceCtorEq, zbb, zbc, zba, zaz, Nat.reduceAdd, Nat.reduceMul, zaq, zar, eqPtr, zae, zaf, zab, zaa, zac, zad, hload, hstore, zal, zam, Nat.reduceAdd, Nat.reduceLeDiff, zbb, zas, zat, one, zau, zaw, zav, splice, zaj, zak, zab, zaa, ycs, yct, ycu, ycv, ycw, ycx, ycy, ycz, zan, zai, zax, zay, and_self, true_and, and_true, lenV, yda, Nat.le_refl, if_true, ydq, ydr, yds, ne_eq, not_true_eq_false, not_false_eq_true, ← decide_not, Decidable.not_not, ydt, ydu, ydz, ydv, ydw, List.drop_zero, eq_self, Bool.false_eq_true, List.getElem?_toArray, yea, yeb, List.nil_append, List.cons_append, Bool.false_and, Int.reduceEq, Int.reduceLT, Int.reduceLE, Int.reduceNe, zbc, zbb, yec, yed, yee, yef, ydx, ydy, f160, *] | refine yeg (fun _ => ?_) (fun _ => ?_) | refine yeh (fun _ => ?_) (fun _ => ?_) | refine yei (fun _ => ?_) (fun _ => ?_) | refine yej (fun _ => ?_) (fun _ => ?_) | refine yek (fun _ => ?_) (fun _ => ?_) | refine yel (fun _ => ?_) (fun _ => ?_)))
theorem f170_0 (x y : TC) : AC tbl 170 [x.v, y.v] [] = some (.int .i64 (if cmpI x.s y.s ≠ 0 then cmpI x.s y.s else cmpI x.w y.w), []) := by
  apply AC_eq
  apply AC_wp (F := F170) rfl (by simp [F170]) (.inr rfl)
  unfold F170 TC.v
  have hc := @f175 ([some (⟨true, [.int .i64 x.s, .int .i64 x.c, .int .i64 x.w, .bool x.b, .int .i64 x.p, .int .i64 x.n]⟩ : Blk)] ++ [some (⟨true, [.int .i64 y.s, .int .i64 y.c, .int .i64 y.w, .bool y.b, .int .i64 y.p, .int .i64 y.n]⟩ : Blk)] ++ [some (⟨true, [.int .i64 (cmpI x.s y.s), .int .i64 (cmpI x.w y.w)]⟩ : Blk)]) 2 true (cmpI x.s y.s) (cmpI x.w y.w) rfl
  simp only [List.nil_append, List.cons_append] at hc
  simp only [↓yaa, ↓yab, ↓yac, ↓yad, ↓yae, ↓yaf, ↓yag, ↓yah, ↓yai, ↓ydb, ↓ydc, ↓ydd, ↓yde, ↓ydf, ↓ydg, ↓yao, ↓yap, ↓ydh, ↓ydi, ↓ydj, ↓ydk, ↓ydl, ↓ydm, ↓ydn, ↓ydo, ↓ydp, ↓yax, yay, yaz, yba, ybb, ybc, ybd, ybe, ybf, ybg, ybh, ybi, ybj, ybk, ybl, ybm, ybn, ybo, ybp, ybq, ybr, ybs, ybt, ybu, ybv, ares, tup, ybw, ybx, yby, argsE, dval, aop, ev, evs, evo, evp, fillL, addrOf, intOf?, ybz, yca, ycb, ycc, ycd, yce, ycf, zah, zag, reduceIte, Nat.reduceEqDiff, ycg, ych, yci, ycj, yck, ycl, ycm, ycn, yco, ycp, ycq, ycr, zap, zao, reduceCtorEq, zbb, zbc, zba, zaz, Nat.reduceAdd, Nat.reduceMul, zaq, zar, eqPtr, zae, zaf, zab, zaa, zac, zad, hload, hstore, zal, zam, Nat.reduceAdd, Nat.reduceLeDiff, zbb, zas, zat, one, zau, zaw, zav, splice, zaj, zak, zab, zaa, ycs, yct, ycu, ycv, ycw, ycx, ycy, ycz, zan, zai, zax, zay, and_self, true_and, and_true, lenV, yda, Nat.le_refl, if_true, ydq, ydr, yds, ne_eq, not_true_eq_false, not_false_eq_true, ← decide_not, Decidable.not_not, ydt, ydu, ydz, ydv, ydw, List.drop_zero, eq_self, Bool.false_eq_true, List.getElem?_toArray, yea, yeb, List.nil_append, List.cons_append, Bool.false_and, Int.reduceEq, Int.reduceLT, Int.reduceLE, Int.reduceNe, zbc, zbb, yec, yed, yee, yef, ydx, ydy, f160, hc]
theorem f170 (x y : TC) : ∃ n : Int, (0 ≤ n ↔ ¬ x.Lt y) ∧ ∀ H, AC tbl 170 [x.v, y.v] H = some (.int .i64 n, H) := by
  refine ⟨_, ?_, fun H => AC_iso (F := F170) rfl (by simp [F170]) rfl rfl rfl (f170_0 x y) H⟩
  unfold cmpI TC.Lt
  repeat' split
  all_goals omega

theorem f138 (x : Int) (H : Heap) : ∃ p : Bool, AC tbl 138 [.int .i64 x] H = some (.bool p, H) := by
  have h : Op1 (AC tbl 138 [.int .i64 x] []) fun v H' => ∃ p : Bool, v = .bool p ∧ H' = [] := by
    have key : ∀ K : Value → Heap → Prop, (∀ p : Bool, K (.bool p) []) → Op1 (AC tbl 138 [.int .i64 x] []) K := by
      intro K hk
      apply AC_wp (F := F138) rfl (by simp [F138]) (.inr rfl)
      unfold F138
      (repeat' (first | simp only [↓yaa, ↓yab, ↓yac, ↓yad, ↓yae, ↓yaf, ↓yag, ↓yah, ↓yai, ↓ydb, ↓ydc, ↓ydd, ↓yde, ↓ydf, ↓ydg, ↓yao, ↓yap, ↓ydh, ↓ydi, ↓ydj, ↓ydk, ↓ydl, ↓ydm, ↓ydn, ↓ydo, ↓ydp, ↓yax, yay, yaz, yba, ybb, ybc, ybd, ybe, ybf, ybg, ybh, ybi, ybj, ybk, ybl, ybm, ybn, ybo, ybp, ybq, ybr, ybs, ybt, ybu, ybv, ares, tup, ybw, ybx, yby, argsE, dval, aop, ev, evs, evo, evp, fillL, addrOf, intOf?, ybz, yca, ycb, ycc, ycd, yce, ycf, zah, zag, reduceIte, Nat.reduceEqDiff, ycg, ych, yci, ycj, yck, ycl, ycm, ycn, yco, ycp, ycq, ycr, zap, zao, reduceCtorEq, zbb, zbc, zba, zaz, Nat.reduceAdd, Nat.reduceMul, zaq, zar, eqPtr, zae, zaf, zab, zaa, zac, zad, hload, hstore, zal, zam, Nat.reduceAdd, Nat.reduceLeDiff, zbb, zas, zat, one, zau, zaw, zav, splice, zaj, zak, zab, zaa, ycs, yct, ycu, ycv, ycw, ycx, ycy, ycz, zan, zai, zax, zay, and_self, true_and, and_true, lenV, yda, Nat.le_refl, if_true, ydq, ydr, yds, ne_eq, not_true_eq_false, not_false_eq_true, ← decide_not, Decidable.not_not, ydt, ydu, ydz, ydv, ydw, List.drop_zero, eq_self, Bool.false_eq_true, List.getElem?_toArray, yea, yeb, List.nil_append, List.cons_append, Bool.false_and, Int.reduceEq, Int.reduceLT, Int.reduceLE, Int.reduceNe, zbc, zbb, yec, yed, yee, yef, ydx, ydy, *] | refine yeg (fun _ => ?_) (fun _ => ?_) | refine yeh (fun _ => ?_) (fun _ => ?_) | refine yei (fun _ => ?_) (fun _ => ?_) | refine yej (fun _ => ?_) (fun _ => ?_) | refine yek (fun _ => ?_) (fun _ => ?_) | refine yel (fun _ => ?_) (fun _ => ?_)))
    exact key _ fun p => ⟨p, rfl, rfl⟩
  obtain ⟨v, H', e, p, rfl, rfl⟩ := h
  exact ⟨p, AC_iso (F := F138) rfl (by simp [F138]) rfl rfl rfl e H⟩
theorem f115 {H : Heap} {t : Tb} {a : Option Addr} {z : Nat} {K : Value → Heap → Prop} (hk : ∀ H' (p : Bool), Frm [] H H' → K (.bool p) H') : Op1 (AC tbl 115 [t.v a z] H) K := by
  apply AC_wp (F := F115) rfl (by simp [F115]) (.inl rfl)
  unfold F115 Tb.v
  obtain ⟨p, hp⟩ := f138 (t.cs.length : Int) (H ++ [some ⟨true, [.int .i64 t.node, .int .i64 t.len, .slice a t.cs.length z]⟩])
  have f0 : ∀ b, Frm [] H (H ++ [b]) := fun b => (Frm.refl _ _).push b
  cases p <;>
  · (repeat' (first | simp only [↓yaa, ↓yab, ↓yac, ↓yad, ↓yae, ↓yaf, ↓yag, ↓yah, ↓yai, ↓ydb, ↓ydc, ↓ydd, ↓yde, ↓ydf, ↓ydg, ↓yao, ↓yap, ↓ydh, ↓ydi, ↓ydj, ↓ydk, ↓ydl, ↓ydm, ↓ydn, ↓ydo, ↓ydp, ↓yax, yay, yaz, yba, ybb, ybc, ybd, ybe, ybf, ybg, ybh, ybi, ybj, ybk, ybl, ybm, ybn, ybo, ybp, ybq, ybr, ybs, ybt, ybu, ybv, ares, tup, ybw, ybx, yby, argsE, dval, aop, ev, evs, evo, evp, fillL, addrOf, intOf?, ybz, yca, ycb, ycc, ycd, yce, ycf, zah, zag, reduceIte, Nat.reduceEqDiff, ycg, ych, yci, ycj, yck, ycl, ycm, ycn, yco, ycp, ycq, ycr, zap, zao, reduceCtorEq, zbb, zbc, zba, zaz, Nat.reduceAdd, Nat.reduceMul, zaq, zar, eqPtr, zae, zaf, zab, zaa, zac, zad, hload, hstore, zal, zam, Nat.reduceAdd, Nat.reduceLeDiff, zbb, zas, zat, one, zau, zaw, zav, splice, zaj, zak, zab, zaa, ycs, yct, ycu, ycv, ycw, ycx, ycy, ycz, zan, zai, zax, zay, and_self, true_and, and_true, lenV, yda, Nat.le_refl, if_true, ydq, ydr, yds, ne_eq, not_true_eq_false, not_false_eq_true, ← decide_not, Decidable.not_not, ydt, ydu, ydz, ydv, ydw, List.drop_zero, eq_self, Bool.false_eq_true, List.getElem?_toArray, yea, yeb, List.nil_append, List.cons_append, Bool.false_and, Int.reduceEq, Int.reduceLT, Int.reduceLE, Int.reduceNe, zbc, zbb, yec, yed, yee, yef, ydx, ydy, hp, *] | refine yeg (fun _ => ?_) (fun _ => ?_) | refine yeh (fun _ => ?_) (fun _ => ?_) | refine yei (fun _ => ?_) (fun _ => ?_) | refine yej (fun _ => ?_) (fun _ => ?_) | refine yek (fun _ => ?_) (fun _ => ?_) | refine yel (fun _ => ?_) (fun _ => ?_)))
    all_goals exact hk _ _ (f0 _)

end Go.Proofs.Ytejcabdejoameaa.AI

/- Tables that are right. -/
set_option linter.unusedSimpArgs false
set_option linter.unusedVariables false
set_option maxHeartbeats 4000000
namespace Go.Proofs.Ytejcabdejoameaa.AI
open Go

theorem f155 {H : Heap} {t : Tb} {a : Option Addr} {z : Nat} (h : TI H a z t.cs) {K : Value → Heap → Prop} (hk : ∀ H' (n : Int), Frm [] H H' → (n = 0 ↔ t.Ok) → K (.int .i64 n) H') : Op1 (AC tbl 155 [t.v a z] H) K := by
  apply AC_wp (F := F155) rfl (by simp [F155]) (.inl rfl)
  have hg : hget (H ++ [some (⟨true, [.int .i64 t.node, .int .i64 t.len, .slice a t.cs.length z]⟩ : Blk)]) H.length = some (⟨true, [.int .i64 t.node, .int .i64 t.len, .slice a t.cs.length z]⟩ : Blk) := ydu
  have hG := h.push (some (⟨true, [.int .i64 t.node, .int .i64 t.len, .slice a t.cs.length z]⟩ : Blk))
  have f0 : Frm [] H (H ++ [some (⟨true, [.int .i64 t.node, .int .i64 t.len, .slice a t.cs.length z]⟩ : Blk)]) := (Frm.refl _ _).push _
  have bad : ∀ H' (n : Int), Frm [] H H' → n ≠ 0 → ¬ t.Ok → K (.int .i64 n) H' := fun H' n hf h1 h2 => hk H' n hf ⟨fun q => absurd q h1, fun q => absurd q h2⟩
  unfold Tb.v
  by_cases c1 : 0 ≤ t.node ∧ t.node < 32
  · by_cases c2 : t.len < 1
    · simp only [F155, ↓yaa, ↓yab, ↓yac, ↓yad, ↓yae, ↓yaf, ↓yag, ↓yah, ↓yai, ↓ydb, ↓ydc, ↓ydd, ↓yde, ↓ydf, ↓ydg, ↓yao, ↓yap, ↓ydh, ↓ydi, ↓ydj, ↓ydk, ↓ydl, ↓ydm, ↓ydn, ↓ydo, ↓ydp, ↓yax, yay, yaz, yba, ybb, ybc, ybd, ybe, ybf, ybg, ybh, ybi, ybj, ybk, ybl, ybm, ybn, ybo, ybp, ybq, ybr, ybs, ybt, ybu, ybv, ares, tup, ybw, ybx, yby, argsE, dval, aop, ev, evs, evo, evp, fillL, addrOf, intOf?, ybz, yca, ycb, ycc, ycd, yce, ycf, zah, zag, reduceIte, Nat.reduceEqDiff, ycg, ych, yci, ycj, yck, ycl, ycm, ycn, yco, ycp, ycq, ycr, zap, zao, reduceCtorEq, zbb, zbc, zba, zaz, Nat.reduceAdd, Nat.reduceMul, zaq, zar, eqPtr, zae, zaf, zab, zaa, zac, zad, hload, hstore, zal, zam, Nat.reduceAdd, Nat.reduceLeDiff, zbb, zas, zat, one, zau, zaw, zav, splice, zaj, zak, zab, zaa, ycs, yct, ycu, ycv, ycw, ycx, ycy, ycz, zan, zai, zax, zay, and_self, true_and, and_true, lenV, yda, Nat.le_refl, if_true, ydq, ydr, yds, ne_eq, not_true_eq_false, not_false_eq_true, ← decide_not, Decidable.not_not, ydt, ydu, ydz, ydv, ydw, List.drop_zero, eq_self, Bool.false_eq_true, List.getElem?_toArray, yea, yeb, List.nil_append, List.cons_append, Bool.false_and, Int.reduceEq, Int.reduceLT, Int.reduceLE, Int.reduceNe, zbc, zbb, yec, yed, yee, yef, ydx, ydy, f168, c1, c2]
      exact bad _ _ f0 (by decide) (fun q => by have := q.len; omega)
    · by_cases c3 : 512 < t.len
      · simp only [F155, ↓yaa, ↓yab, ↓yac, ↓yad, ↓yae, ↓yaf, ↓yag, ↓yah, ↓yai, ↓ydb, ↓ydc, ↓ydd, ↓yde, ↓ydf, ↓ydg, ↓yao, ↓yap, ↓ydh, ↓ydi, ↓ydj, ↓ydk, ↓ydl, ↓ydm, ↓ydn, ↓ydo, ↓ydp, ↓yax, yay, yaz, yba, ybb, ybc, ybd, ybe, ybf, ybg, ybh, ybi, ybj, ybk, ybl, ybm, ybn, ybo, ybp, ybq, ybr, ybs, ybt, ybu, ybv, ares, tup, ybw, ybx, yby, argsE, dval, aop, ev, evs, evo, evp, fillL, addrOf, intOf?, ybz, yca, ycb, ycc, ycd, yce, ycf, zah, zag, reduceIte, Nat.reduceEqDiff, ycg, ych, yci, ycj, yck, ycl, ycm, ycn, yco, ycp, ycq, ycr, zap, zao, reduceCtorEq, zbb, zbc, zba, zaz, Nat.reduceAdd, Nat.reduceMul, zaq, zar, eqPtr, zae, zaf, zab, zaa, zac, zad, hload, hstore, zal, zam, Nat.reduceAdd, Nat.reduceLeDiff, zbb, zas, zat, one, zau, zaw, zav, splice, zaj, zak, zab, zaa, ycs, yct, ycu, ycv, ycw, ycx, ycy, ycz, zan, zai, zax, zay, and_self, true_and, and_true, lenV, yda, Nat.le_refl, if_true, ydq, ydr, yds, ne_eq, not_true_eq_false, not_false_eq_true, ← decide_not, Decidable.not_not, ydt, ydu, ydz, ydv, ydw, List.drop_zero, eq_self, Bool.false_eq_true, List.getElem?_toArray, yea, yeb, List.nil_append, List.cons_append, Bool.false_and, Int.reduceEq, Int.reduceLT, Int.reduceLE, Int.reduceNe, zbc, zbb, yec, yed, yee, yef, ydx, ydy, f168, c1, c2, c3]
        exact bad _ _ f0 (by decide) (fun q => by have := q.len; omega)
      · by_cases c4 : (512 : Int) < (t.cs.length : Int)
        · simp only [F155, ↓yaa, ↓yab, ↓yac, ↓yad, ↓yae, ↓yaf, ↓yag, ↓yah, ↓yai, ↓ydb, ↓ydc, ↓ydd, ↓yde, ↓ydf, ↓ydg, ↓yao, ↓yap, ↓ydh, ↓ydi, ↓ydj, ↓ydk, ↓ydl, ↓ydm, ↓ydn, ↓ydo, ↓ydp, ↓yax, yay, yaz, yba, ybb, ybc, ybd, ybe, ybf, ybg, ybh, ybi, ybj, ybk, ybl, ybm, ybn, ybo, ybp, ybq, ybr, ybs, ybt, ybu, ybv, ares, tup, ybw, ybx, yby, argsE, dval, aop, ev, evs, evo, evp, fillL, addrOf, intOf?, ybz, yca, ycb, ycc, ycd, yce, ycf, zah, zag, reduceIte, Nat.reduceEqDiff, ycg, ych, yci, ycj, yck, ycl, ycm, ycn, yco, ycp, ycq, ycr, zap, zao, reduceCtorEq, zbb, zbc, zba, zaz, Nat.reduceAdd, Nat.reduceMul, zaq, zar, eqPtr, zae, zaf, zab, zaa, zac, zad, hload, hstore, zal, zam, Nat.reduceAdd, Nat.reduceLeDiff, zbb, zas, zat, one, zau, zaw, zav, splice, zaj, zak, zab, zaa, ycs, yct, ycu, ycv, ycw, ycx, ycy, ycz, zan, zai, zax, zay, and_self, true_and, and_true, lenV, yda, Nat.le_refl, if_true, ydq, ydr, yds, ne_eq, not_true_eq_false, not_false_eq_true, ← decide_not, Decidable.not_not, ydt, ydu, ydz, ydv, ydw, List.drop_zero, eq_self, Bool.false_eq_true, List.getElem?_toArray, yea, yeb, List.nil_append, List.cons_append, Bool.false_and, Int.reduceEq, Int.reduceLT, Int.reduceLE, Int.reduceNe, zbc, zbb, yec, yed, yee, yef, ydx, ydy, f168, c1, c2, c3, c4]
          exact bad _ _ f0 (by decide) (fun q => by have := q.few; omega)
        · simp only [F155, ↓yaa, ↓yab, ↓yac, ↓yad, ↓yae, ↓yaf, ↓yag, ↓yah, ↓yai, ↓ydb, ↓ydc, ↓ydd, ↓yde, ↓ydf, ↓ydg, ↓yao, ↓yap, ↓ydh, ↓ydi, ↓ydj, ↓ydk, ↓ydl, ↓ydm, ↓ydn, ↓ydo, ↓ydp, ↓yax, yay, yaz, yba, ybb, ybc, ybd, ybe, ybf, ybg, ybh, ybi, ybj, ybk, ybl, ybm, ybn, ybo, ybp, ybq, ybr, ybs, ybt, ybu, ybv, ares, tup, ybw, ybx, yby, argsE, dval, aop, ev, evs, evo, evp, fillL, addrOf, intOf?, ybz, yca, ycb, ycc, ycd, yce, ycf, zah, zag, reduceIte, Nat.reduceEqDiff, ycg, ych, yci, ycj, yck, ycl, ycm, ycn, yco, ycp, ycq, ycr, zap, zao, reduceCtorEq, zbb, zbc, zba, zaz, Nat.reduceAdd, Nat.reduceMul, zaq, zar, eqPtr, zae, zaf, zab, zaa, zac, zad, hload, hstore, zal, zam, Nat.reduceAdd, Nat.reduceLeDiff, zbb, zas, zat, one, zau, zaw, zav, splice, zaj, zak, zab, zaa, ycs, yct, ycu, ycv, ycw, ycx, ycy, ycz, zan, zai, zax, zay, and_self, true_and, and_true, lenV, yda, Nat.le_refl, if_true, ydq, ydr, yds, ne_eq, not_true_eq_false, not_false_eq_true, ← decide_not, Decidable.not_not, ydt, ydu, ydz, ydv, ydw, List.drop_zero, eq_self, Bool.false_eq_true, List.getElem?_toArray, yea, yeb, List.nil_append, List.cons_append, Bool.false_and, Int.reduceEq, Int.reduceLT, Int.reduceLE, Int.reduceNe, zbc, zbb, yec, yed, yee, yef, ydx, ydy, f168, c1, c2, c3, c4]
          generalize H ++ [some (⟨true, [.int .i64 t.node, .int .i64 t.len, .slice a t.cs.length z]⟩ : Blk)] = G at *
          apply AW_loop_inv (fun k e H1 => ∃ i : Nat, i + k = t.cs.length ∧ e = [(1, .pointer (some ⟨H.length, 0, none⟩)), (25, .slice a t.cs.length z), (26, .int .i64 (t.cs.length : Int)), (27, .int .i64 (i : Int))] ∧ Frm [] G H1 ∧
            (∀ (m : Nat) (x : TC), m < i → t.cs[m]? = some x → x.Form t.node t.len) ∧ (∀ (m : Nat) (x y : TC), m + 1 < i → t.cs[m]? = some x → t.cs[m + 1]? = some y → x.Lt y)) _ t.cs.length
          · exact ⟨0, by omega, rfl, Frm.refl _ _, fun m x hm => by omega, fun m x y hm => by omega⟩
          · rintro k e H1 ⟨i, hik, rfl, hf, hx, hl⟩
            cases k with
            | zero =>
              have g0 : ¬ (i : Int) < (t.cs.length : Int) := by omega
              simp only [↓yaa, ↓yab, ↓yac, ↓yad, ↓yae, ↓yaf, ↓yag, ↓yah, ↓yai, ↓ydb, ↓ydc, ↓ydd, ↓yde, ↓ydf, ↓ydg, ↓yao, ↓yap, ↓ydh, ↓ydi, ↓ydj, ↓ydk, ↓ydl, ↓ydm, ↓ydn, ↓ydo, ↓ydp, ↓yax, yay, yaz, yba, ybb, ybc, ybd, ybe, ybf, ybg, ybh, ybi, ybj, ybk, ybl, ybm, ybn, ybo, ybp, ybq, ybr, ybs, ybt, ybu, ybv, ares, tup, ybw, ybx, yby, argsE, dval, aop, ev, evs, evo, evp, fillL, addrOf, intOf?, ybz, yca, ycb, ycc, ycd, yce, ycf, zah, zag, reduceIte, Nat.reduceEqDiff, ycg, ych, yci, ycj, yck, ycl, ycm, ycn, yco, ycp, ycq, ycr, zap, zao, reduceCtorEq, zbb, zbc, zba, zaz, Nat.reduceAdd, Nat.reduceMul, zaq, zar, eqPtr, zae, zaf, zab, zaa, zac, zad, hload, hstore, zal, zam, Nat.reduceAdd, Nat.reduceLeDiff, zbb, zas, zat, one, zau, zaw, zav, splice, zaj, zak, zab, zaa, ycs, yct, ycu, ycv, ycw, ycx, ycy, ycz, zan, zai, zax, zay, and_self, true_and, and_true, lenV, yda, Nat.le_refl, if_true, ydq, ydr, yds, ne_eq, not_true_eq_false, not_false_eq_true, ← decide_not, Decidable.not_not, ydt, ydu, ydz, ydv, ydw, List.drop_zero, eq_self, Bool.false_eq_true, List.getElem?_toArray, yea, yeb, List.nil_append, List.cons_append, Bool.false_and, Int.reduceEq, Int.reduceLT, Int.reduceLE, Int.reduceNe, zbc, zbb, yec, yed, yee, yef, ydx, ydy, g0]
              refine hk _ _ (f0.then hf) ⟨fun _ => ⟨c1, by omega, by omega, fun m x hm => hx m x (by have := (List.getElem?_eq_some_iff.1 hm).1; omega) hm, fun m x y hm hy => hl m x y (by have := (List.getElem?_eq_some_iff.1 hy).1; omega) hm hy⟩, fun _ => rfl⟩
            | succ k =>
              obtain ⟨x, hix⟩ : ∃ x, t.cs[i]? = some x := ⟨_, List.getElem?_eq_getElem (by omega)⟩
              obtain ⟨b, o, w, cs, rfl, rfl, q1, q2, q3, q4⟩ := (hG.frame0 hf) i x hix
              obtain ⟨n, hn, hc⟩ := f169 x t.node t.len
              unfold TC.v at hc
              have gb := hf.gets hg
              have lb := hget_lt gb
              have lq := hget_lt q1
              have g0 : (i : Int) < (t.cs.length : Int) := by omega
              have g1 : (0 : Int) ≤ (i : Int) := by omega
              have g3 : IntKind.i64.wrap ((i : Int) + 1) = ((i + 1 : Nat) : Int) := by rw [wrap_i64 (by omega) (by omega)]; omega
              by_cases c5 : n = 0
              · have hfm := hn.1 c5
                have f1 := hf.push (some (⟨true, [.int .i64 x.s, .int .i64 x.c, .int .i64 x.w, .bool x.b, .int .i64 x.p, .int .i64 x.n]⟩ : Blk))
                by_cases c6 : (0 : Int) < (i : Int)
                · obtain ⟨y, hiy⟩ : ∃ y, t.cs[i - 1]? = some y := ⟨_, List.getElem?_eq_getElem (by omega)⟩
                  obtain ⟨b', o', w', cs', hh, _, p1, p2, p3, p4⟩ := (hG.frame0 hf) (i - 1) y hiy
                  simp only [Option.some.injEq, Addr.mk.injEq, and_true] at hh
                  obtain ⟨rfl, rfl⟩ := hh
                  rw [q1] at p1
                  simp only [Option.some.injEq, Blk.mk.injEq] at p1
                  obtain ⟨rfl, rfl⟩ := p1
                  obtain ⟨m, hm, hd⟩ := f170 y x
                  unfold TC.v at hd
                  have g4 : IntKind.i64.wrap ((i : Int) - 1) = ((i - 1 : Nat) : Int) := by rw [wrap_i64 (by omega) (by omega)]; omega
                  have g5 : (0 : Int) ≤ ((i - 1 : Nat) : Int) := by omega
                  have g6 : ((i - 1 : Nat) : Int) < (t.cs.length : Int) := by omega
                  by_cases c7 : 0 ≤ m
                  · simp only [↓yaa, ↓yab, ↓yac, ↓yad, ↓yae, ↓yaf, ↓yag, ↓yah, ↓yai, ↓ydb, ↓ydc, ↓ydd, ↓yde, ↓ydf, ↓ydg, ↓yao, ↓yap, ↓ydh, ↓ydi, ↓ydj, ↓ydk, ↓ydl, ↓ydm, ↓ydn, ↓ydo, ↓ydp, ↓yax, yay, yaz, yba, ybb, ybc, ybd, ybe, ybf, ybg, ybh, ybi, ybj, ybk, ybl, ybm, ybn, ybo, ybp, ybq, ybr, ybs, ybt, ybu, ybv, ares, tup, ybw, ybx, yby, argsE, dval, aop, ev, evs, evo, evp, fillL, addrOf, intOf?, ybz, yca, ycb, ycc, ycd, yce, ycf, zah, zag, reduceIte, Nat.reduceEqDiff, ycg, ych, yci, ycj, yck, ycl, ycm, ycn, yco, ycp, ycq, ycr, zap, zao, reduceCtorEq, zbb, zbc, zba, zaz, Nat.reduceAdd, Nat.reduceMul, zaq, zar, eqPtr, zae, zaf, zab, zaa, zac, zad, hload, hstore, zal, zam, Nat.reduceAdd, Nat.reduceLeDiff, zbb, zas, zat, one, zau, zaw, zav, splice, zaj, zak, zab, zaa, ycs, yct, ycu, ycv, ycw, ycx, ycy, ycz, zan, zai, zax, zay, and_self, true_and, and_true, lenV, yda, Nat.le_refl, if_true, ydq, ydr, yds, ne_eq, not_true_eq_false, not_false_eq_true, ← decide_not, Decidable.not_not, ydt, ydu, ydz, ydv, ydw, List.drop_zero, eq_self, Bool.false_eq_true, List.getElem?_toArray, yea, yeb, List.nil_append, List.cons_append, Bool.false_and, Int.reduceEq, Int.reduceLT, Int.reduceLE, Int.reduceNe, zbc, zbb, yec, yed, yee, yef, ydx, ydy, g0, g1, g3, g4, g5, g6, Int.toNat_natCast, q1, q2, q3, p2, p3, hc, hd, c5, c6, c7, yem, lb, lq, gb, tk6, ls6, sz6]
                    exact bad _ _ (f0.then f1) (by decide) (fun q => (hm.1 c7) (q.lt (i - 1) y x hiy (by rw [show i - 1 + 1 = i by omega]; exact hix)))
                  · simp only [↓yaa, ↓yab, ↓yac, ↓yad, ↓yae, ↓yaf, ↓yag, ↓yah, ↓yai, ↓ydb, ↓ydc, ↓ydd, ↓yde, ↓ydf, ↓ydg, ↓yao, ↓yap, ↓ydh, ↓ydi, ↓ydj, ↓ydk, ↓ydl, ↓ydm, ↓ydn, ↓ydo, ↓ydp, ↓yax, yay, yaz, yba, ybb, ybc, ybd, ybe, ybf, ybg, ybh, ybi, ybj, ybk, ybl, ybm, ybn, ybo, ybp, ybq, ybr, ybs, ybt, ybu, ybv, ares, tup, ybw, ybx, yby, argsE, dval, aop, ev, evs, evo, evp, fillL, addrOf, intOf?, ybz, yca, ycb, ycc, ycd, yce, ycf, zah, zag, reduceIte, Nat.reduceEqDiff, ycg, ych, yci, ycj, yck, ycl, ycm, ycn, yco, ycp, ycq, ycr, zap, zao, reduceCtorEq, zbb, zbc, zba, zaz, Nat.reduceAdd, Nat.reduceMul, zaq, zar, eqPtr, zae, zaf, zab, zaa, zac, zad, hload, hstore, zal, zam, Nat.reduceAdd, Nat.reduceLeDiff, zbb, zas, zat, one, zau, zaw, zav, splice, zaj, zak, zab, zaa, ycs, yct, ycu, ycv, ycw, ycx, ycy, ycz, zan, zai, zax, zay, and_self, true_and, and_true, lenV, yda, Nat.le_refl, if_true, ydq, ydr, yds, ne_eq, not_true_eq_false, not_false_eq_true, ← decide_not, Decidable.not_not, ydt, ydu, ydz, ydv, ydw, List.drop_zero, eq_self, Bool.false_eq_true, List.getElem?_toArray, yea, yeb, List.nil_append, List.cons_append, Bool.false_and, Int.reduceEq, Int.reduceLT, Int.reduceLE, Int.reduceNe, zbc, zbb, yec, yed, yee, yef, ydx, ydy, g0, g1, g3, g4, g5, g6, Int.toNat_natCast, q1, q2, q3, p2, p3, hc, hd, c5, c6, c7, yem, lb, lq, gb, tk6, ls6, sz6]
                    refine ⟨k, by omega, i + 1, by omega, rfl, f1, ?_, ?_⟩
                    · intro m' x' hm' hx'
                      by_cases e : m' = i
                      · subst e; rw [hix] at hx'; injection hx' with hx'; subst hx'; exact hfm
                      · exact hx m' x' (by omega) hx'
                    · intro m' x' y' hm' hx' hy'
                      by_cases e : m' + 1 = i
                      · rw [e, hix] at hy'
                        injection hy' with hy'; subst hy'
                        rw [show m' = i - 1 by omega, hiy] at hx'
                        injection hx' with hx'; subst hx'
                        exact Classical.byContradiction fun q => c7 (hm.2 q)
                      · exact hl m' x' y' (by omega) hx' hy'
                · simp only [↓yaa, ↓yab, ↓yac, ↓yad, ↓yae, ↓yaf, ↓yag, ↓yah, ↓yai, ↓ydb, ↓ydc, ↓ydd, ↓yde, ↓ydf, ↓ydg, ↓yao, ↓yap, ↓ydh, ↓ydi, ↓ydj, ↓ydk, ↓ydl, ↓ydm, ↓ydn, ↓ydo, ↓ydp, ↓yax, yay, yaz, yba, ybb, ybc, ybd, ybe, ybf, ybg, ybh, ybi, ybj, ybk, ybl, ybm, ybn, ybo, ybp, ybq, ybr, ybs, ybt, ybu, ybv, ares, tup, ybw, ybx, yby, argsE, dval, aop, ev, evs, evo, evp, fillL, addrOf, intOf?, ybz, yca, ycb, ycc, ycd, yce, ycf, zah, zag, reduceIte, Nat.reduceEqDiff, ycg, ych, yci, ycj, yck, ycl, ycm, ycn, yco, ycp, ycq, ycr, zap, zao, reduceCtorEq, zbb, zbc, zba, zaz, Nat.reduceAdd, Nat.reduceMul, zaq, zar, eqPtr, zae, zaf, zab, zaa, zac, zad, hload, hstore, zal, zam, Nat.reduceAdd, Nat.reduceLeDiff, zbb, zas, zat, one, zau, zaw, zav, splice, zaj, zak, zab, zaa, ycs, yct, ycu, ycv, ycw, ycx, ycy, ycz, zan, zai, zax, zay, and_self, true_and, and_true, lenV, yda, Nat.le_refl, if_true, ydq, ydr, yds, ne_eq, not_true_eq_false, not_false_eq_true, ← decide_not, Decidable.not_not, ydt, ydu, ydz, ydv, ydw, List.drop_zero, eq_self, Bool.false_eq_true, List.getElem?_toArray, yea, yeb, List.nil_append, List.cons_append, Bool.false_and, Int.reduceEq, Int.reduceLT, Int.reduceLE, Int.reduceNe, zbc, zbb, yec, yed, yee, yef, ydx, ydy, g0, g1, g3, Int.toNat_natCast, q1, q2, q3, hc, c5, c6, yem, lb, lq, gb, tk6, ls6, sz6]
                  refine ⟨k, by omega, i + 1, by omega, rfl, f1, ?_, ?_⟩
                  · intro m' x' hm' hx'
                    have e : m' = i := by omega
                    subst e; rw [hix] at hx'; injection hx' with hx'; subst hx'; exact hfm
                  · intro m' x' y' hm'; omega
              · have f1 := hf.push (some (⟨true, [.int .i64 x.s, .int .i64 x.c, .int .i64 x.w, .bool x.b, .int .i64 x.p, .int .i64 x.n]⟩ : Blk))
                simp only [↓yaa, ↓yab, ↓yac, ↓yad, ↓yae, ↓yaf, ↓yag, ↓yah, ↓yai, ↓ydb, ↓ydc, ↓ydd, ↓yde, ↓ydf, ↓ydg, ↓yao, ↓yap, ↓ydh, ↓ydi, ↓ydj, ↓ydk, ↓ydl, ↓ydm, ↓ydn, ↓ydo, ↓ydp, ↓yax, yay, yaz, yba, ybb, ybc, ybd, ybe, ybf, ybg, ybh, ybi, ybj, ybk, ybl, ybm, ybn, ybo, ybp, ybq, ybr, ybs, ybt, ybu, ybv, ares, tup, ybw, ybx, yby, argsE, dval, aop, ev, evs, evo, evp, fillL, addrOf, intOf?, ybz, yca, ycb, ycc, ycd, yce, ycf, zah, zag, reduceIte, Nat.reduceEqDiff, ycg, ych, yci, ycj, yck, ycl, ycm, ycn, yco, ycp, ycq, ycr, zap, zao, reduceCtorEq, zbb, zbc, zba, zaz, Nat.reduceAdd, Nat.reduceMul, zaq, zar, eqPtr, zae, zaf, zab, zaa, zac, zad, hload, hstore, zal, zam, Nat.reduceAdd, Nat.reduceLeDiff, zbb, zas, zat, one, zau, zaw, zav, splice, zaj, zak, zab, zaa, ycs, yct, ycu, ycv, ycw, ycx, ycy, ycz, zan, zai, zax, zay, and_self, true_and, and_true, lenV, yda, Nat.le_refl, if_true, ydq, ydr, yds, ne_eq, not_true_eq_false, not_false_eq_true, ← decide_not, Decidable.not_not, ydt, ydu, ydz, ydv, ydw, List.drop_zero, eq_self, Bool.false_eq_true, List.getElem?_toArray, yea, yeb, List.nil_append, List.cons_append, Bool.false_and, Int.reduceEq, Int.reduceLT, Int.reduceLE, Int.reduceNe, zbc, zbb, yec, yed, yee, yef, ydx, ydy, g0, g1, g3, Int.toNat_natCast, q1, q2, q3, hc, c5, yem, lb, lq, gb, tk6, ls6, sz6]
                exact bad _ _ (f0.then f1) c5 (fun q => c5 (hn.2 (q.form i x hix)))
  · simp only [F155, ↓yaa, ↓yab, ↓yac, ↓yad, ↓yae, ↓yaf, ↓yag, ↓yah, ↓yai, ↓ydb, ↓ydc, ↓ydd, ↓yde, ↓ydf, ↓ydg, ↓yao, ↓yap, ↓ydh, ↓ydi, ↓ydj, ↓ydk, ↓ydl, ↓ydm, ↓ydn, ↓ydo, ↓ydp, ↓yax, yay, yaz, yba, ybb, ybc, ybd, ybe, ybf, ybg, ybh, ybi, ybj, ybk, ybl, ybm, ybn, ybo, ybp, ybq, ybr, ybs, ybt, ybu, ybv, ares, tup, ybw, ybx, yby, argsE, dval, aop, ev, evs, evo, evp, fillL, addrOf, intOf?, ybz, yca, ycb, ycc, ycd, yce, ycf, zah, zag, reduceIte, Nat.reduceEqDiff, ycg, ych, yci, ycj, yck, ycl, ycm, ycn, yco, ycp, ycq, ycr, zap, zao, reduceCtorEq, zbb, zbc, zba, zaz, Nat.reduceAdd, Nat.reduceMul, zaq, zar, eqPtr, zae, zaf, zab, zaa, zac, zad, hload, hstore, zal, zam, Nat.reduceAdd, Nat.reduceLeDiff, zbb, zas, zat, one, zau, zaw, zav, splice, zaj, zak, zab, zaa, ycs, yct, ycu, ycv, ycw, ycx, ycy, ycz, zan, zai, zax, zay, and_self, true_and, and_true, lenV, yda, Nat.le_refl, if_true, ydq, ydr, yds, ne_eq, not_true_eq_false, not_false_eq_true, ← decide_not, Decidable.not_not, ydt, ydu, ydz, ydv, ydw, List.drop_zero, eq_self, Bool.false_eq_true, List.getElem?_toArray, yea, yeb, List.nil_append, List.cons_append, Bool.false_and, Int.reduceEq, Int.reduceLT, Int.reduceLE, Int.reduceNe, zbc, zbb, yec, yed, yee, yef, ydx, ydy, f168, c1]
    exact bad _ _ f0 (by decide) (fun q => c1 q.node)

theorem f141 {H : Heap} {t : Tb} {a : Option Addr} {z : Nat} (h : TI H a z t.cs) {K : Value → Heap → Prop} (hk : ∀ H' (n : Int), Frm [] H H' → (n = 0 ↔ t.Ok) → K (.int .i64 n) H') : Op1 (AC tbl 141 [t.v a z] H) K := by
  apply AC_wp (F := F141) rfl (by simp [F141]) (.inl rfl)
  have hg : hget (H ++ [some (⟨true, [.int .i64 t.node, .int .i64 t.len, .slice a t.cs.length z]⟩ : Blk)]) H.length = some (⟨true, [.int .i64 t.node, .int .i64 t.len, .slice a t.cs.length z]⟩ : Blk) := ydu
  have hG := h.push (some (⟨true, [.int .i64 t.node, .int .i64 t.len, .slice a t.cs.length z]⟩ : Blk))
  have f0 : Frm [] H (H ++ [some (⟨true, [.int .i64 t.node, .int .i64 t.len, .slice a t.cs.length z]⟩ : Blk)]) := (Frm.refl _ _).push _
  have bad : ∀ H' (n : Int), Frm [] H H' → n ≠ 0 → ¬ t.Ok → K (.int .i64 n) H' := fun H' n hf h1 h2 => hk H' n hf ⟨fun q => absurd q h1, fun q => absurd q h2⟩
  unfold Tb.v
  by_cases c0 : t.node < 0
  · simp only [F141, ↓yaa, ↓yab, ↓yac, ↓yad, ↓yae, ↓yaf, ↓yag, ↓yah, ↓yai, ↓ydb, ↓ydc, ↓ydd, ↓yde, ↓ydf, ↓ydg, ↓yao, ↓yap, ↓ydh, ↓ydi, ↓ydj, ↓ydk, ↓ydl, ↓ydm, ↓ydn, ↓ydo, ↓ydp, ↓yax, yay, yaz, yba, ybb, ybc, ybd, ybe, ybf, ybg, ybh, ybi, ybj, ybk, ybl, ybm, ybn, ybo, ybp, ybq, ybr, ybs, ybt, ybu, ybv, ares, tup, ybw, ybx, yby, argsE, dval, aop, ev, evs, evo, evp, fillL, addrOf, intOf?, ybz, yca, ycb, ycc, ycd, yce, ycf, zah, zag, reduceIte, Nat.reduceEqDiff, ycg, ych, yci, ycj, yck, ycl, ycm, ycn, yco, ycp, ycq, ycr, zap, zao, reduceCtorEq, zbb, zbc, zba, zaz, Nat.reduceAdd, Nat.reduceMul, zaq, zar, eqPtr, zae, zaf, zab, zaa, zac, zad, hload, hstore, zal, zam, Nat.reduceAdd, Nat.reduceLeDiff, zbb, zas, zat, one, zau, zaw, zav, splice, zaj, zak, zab, zaa, ycs, yct, ycu, ycv, ycw, ycx, ycy, ycz, zan, zai, zax, zay, and_self, true_and, and_true, lenV, yda, Nat.le_refl, if_true, ydq, ydr, yds, ne_eq, not_true_eq_false, not_false_eq_true, ← decide_not, Decidable.not_not, ydt, ydu, ydz, ydv, ydw, List.drop_zero, eq_self, Bool.false_eq_true, List.getElem?_toArray, yea, yeb, List.nil_append, List.cons_append, Bool.false_and, Int.reduceEq, Int.reduceLT, Int.reduceLE, Int.reduceNe, zbc, zbb, yec, yed, yee, yef, ydx, ydy, c0]
    exact bad _ _ f0 (by decide) (fun q => by have := q.node; omega)
  by_cases c1 : 32 ≤ t.node
  · simp only [F141, ↓yaa, ↓yab, ↓yac, ↓yad, ↓yae, ↓yaf, ↓yag, ↓yah, ↓yai, ↓ydb, ↓ydc, ↓ydd, ↓yde, ↓ydf, ↓ydg, ↓yao, ↓yap, ↓ydh, ↓ydi, ↓ydj, ↓ydk, ↓ydl, ↓ydm, ↓ydn, ↓ydo, ↓ydp, ↓yax, yay, yaz, yba, ybb, ybc, ybd, ybe, ybf, ybg, ybh, ybi, ybj, ybk, ybl, ybm, ybn, ybo, ybp, ybq, ybr, ybs, ybt, ybu, ybv, ares, tup, ybw, ybx, yby, argsE, dval, aop, ev, evs, evo, evp, fillL, addrOf, intOf?, ybz, yca, ycb, ycc, ycd, yce, ycf, zah, zag, reduceIte, Nat.reduceEqDiff, ycg, ych, yci, ycj, yck, ycl, ycm, ycn, yco, ycp, ycq, ycr, zap, zao, reduceCtorEq, zbb, zbc, zba, zaz, Nat.reduceAdd, Nat.reduceMul, zaq, zar, eqPtr, zae, zaf, zab, zaa, zac, zad, hload, hstore, zal, zam, Nat.reduceAdd, Nat.reduceLeDiff, zbb, zas, zat, one, zau, zaw, zav, splice, zaj, zak, zab, zaa, ycs, yct, ycu, ycv, ycw, ycx, ycy, ycz, zan, zai, zax, zay, and_self, true_and, and_true, lenV, yda, Nat.le_refl, if_true, ydq, ydr, yds, ne_eq, not_true_eq_false, not_false_eq_true, ← decide_not, Decidable.not_not, ydt, ydu, ydz, ydv, ydw, List.drop_zero, eq_self, Bool.false_eq_true, List.getElem?_toArray, yea, yeb, List.nil_append, List.cons_append, Bool.false_and, Int.reduceEq, Int.reduceLT, Int.reduceLE, Int.reduceNe, zbc, zbb, yec, yed, yee, yef, ydx, ydy, c0, c1]
    exact bad _ _ f0 (by decide) (fun q => by have := q.node; omega)
  by_cases c2 : t.len < 1
  · simp only [F141, ↓yaa, ↓yab, ↓yac, ↓yad, ↓yae, ↓yaf, ↓yag, ↓yah, ↓yai, ↓ydb, ↓ydc, ↓ydd, ↓yde, ↓ydf, ↓ydg, ↓yao, ↓yap, ↓ydh, ↓ydi, ↓ydj, ↓ydk, ↓ydl, ↓ydm, ↓ydn, ↓ydo, ↓ydp, ↓yax, yay, yaz, yba, ybb, ybc, ybd, ybe, ybf, ybg, ybh, ybi, ybj, ybk, ybl, ybm, ybn, ybo, ybp, ybq, ybr, ybs, ybt, ybu, ybv, ares, tup, ybw, ybx, yby, argsE, dval, aop, ev, evs, evo, evp, fillL, addrOf, intOf?, ybz, yca, ycb, ycc, ycd, yce, ycf, zah, zag, reduceIte, Nat.reduceEqDiff, ycg, ych, yci, ycj, yck, ycl, ycm, ycn, yco, ycp, ycq, ycr, zap, zao, reduceCtorEq, zbb, zbc, zba, zaz, Nat.reduceAdd, Nat.reduceMul, zaq, zar, eqPtr, zae, zaf, zab, zaa, zac, zad, hload, hstore, zal, zam, Nat.reduceAdd, Nat.reduceLeDiff, zbb, zas, zat, one, zau, zaw, zav, splice, zaj, zak, zab, zaa, ycs, yct, ycu, ycv, ycw, ycx, ycy, ycz, zan, zai, zax, zay, and_self, true_and, and_true, lenV, yda, Nat.le_refl, if_true, ydq, ydr, yds, ne_eq, not_true_eq_false, not_false_eq_true, ← decide_not, Decidable.not_not, ydt, ydu, ydz, ydv, ydw, List.drop_zero, eq_self, Bool.false_eq_true, List.getElem?_toArray, yea, yeb, List.nil_append, List.cons_append, Bool.false_and, Int.reduceEq, Int.reduceLT, Int.reduceLE, Int.reduceNe, zbc, zbb, yec, yed, yee, yef, ydx, ydy, c0, c1, c2]
    exact bad _ _ f0 (by decide) (fun q => by have := q.len; omega)
  by_cases c3 : 512 < t.len
  · simp only [F141, ↓yaa, ↓yab, ↓yac, ↓yad, ↓yae, ↓yaf, ↓yag, ↓yah, ↓yai, ↓ydb, ↓ydc, ↓ydd, ↓yde, ↓ydf, ↓ydg, ↓yao, ↓yap, ↓ydh, ↓ydi, ↓ydj, ↓ydk, ↓ydl, ↓ydm, ↓ydn, ↓ydo, ↓ydp, ↓yax, yay, yaz, yba, ybb, ybc, ybd, ybe, ybf, ybg, ybh, ybi, ybj, ybk, ybl, ybm, ybn, ybo, ybp, ybq, ybr, ybs, ybt, ybu, ybv, ares, tup, ybw, ybx, yby, argsE, dval, aop, ev, evs, evo, evp, fillL, addrOf, intOf?, ybz, yca, ycb, ycc, ycd, yce, ycf, zah, zag, reduceIte, Nat.reduceEqDiff, ycg, ych, yci, ycj, yck, ycl, ycm, ycn, yco, ycp, ycq, ycr, zap, zao, reduceCtorEq, zbb, zbc, zba, zaz, Nat.reduceAdd, Nat.reduceMul, zaq, zar, eqPtr, zae, zaf, zab, zaa, zac, zad, hload, hstore, zal, zam, Nat.reduceAdd, Nat.reduceLeDiff, zbb, zas, zat, one, zau, zaw, zav, splice, zaj, zak, zab, zaa, ycs, yct, ycu, ycv, ycw, ycx, ycy, ycz, zan, zai, zax, zay, and_self, true_and, and_true, lenV, yda, Nat.le_refl, if_true, ydq, ydr, yds, ne_eq, not_true_eq_false, not_false_eq_true, ← decide_not, Decidable.not_not, ydt, ydu, ydz, ydv, ydw, List.drop_zero, eq_self, Bool.false_eq_true, List.getElem?_toArray, yea, yeb, List.nil_append, List.cons_append, Bool.false_and, Int.reduceEq, Int.reduceLT, Int.reduceLE, Int.reduceNe, zbc, zbb, yec, yed, yee, yef, ydx, ydy, c0, c1, c2, c3]
    exact bad _ _ f0 (by decide) (fun q => by have := q.len; omega)
  by_cases c4 : (512 : Int) < (t.cs.length : Int)
  · simp only [F141, ↓yaa, ↓yab, ↓yac, ↓yad, ↓yae, ↓yaf, ↓yag, ↓yah, ↓yai, ↓ydb, ↓ydc, ↓ydd, ↓yde, ↓ydf, ↓ydg, ↓yao, ↓yap, ↓ydh, ↓ydi, ↓ydj, ↓ydk, ↓ydl, ↓ydm, ↓ydn, ↓ydo, ↓ydp, ↓yax, yay, yaz, yba, ybb, ybc, ybd, ybe, ybf, ybg, ybh, ybi, ybj, ybk, ybl, ybm, ybn, ybo, ybp, ybq, ybr, ybs, ybt, ybu, ybv, ares, tup, ybw, ybx, yby, argsE, dval, aop, ev, evs, evo, evp, fillL, addrOf, intOf?, ybz, yca, ycb, ycc, ycd, yce, ycf, zah, zag, reduceIte, Nat.reduceEqDiff, ycg, ych, yci, ycj, yck, ycl, ycm, ycn, yco, ycp, ycq, ycr, zap, zao, reduceCtorEq, zbb, zbc, zba, zaz, Nat.reduceAdd, Nat.reduceMul, zaq, zar, eqPtr, zae, zaf, zab, zaa, zac, zad, hload, hstore, zal, zam, Nat.reduceAdd, Nat.reduceLeDiff, zbb, zas, zat, one, zau, zaw, zav, splice, zaj, zak, zab, zaa, ycs, yct, ycu, ycv, ycw, ycx, ycy, ycz, zan, zai, zax, zay, and_self, true_and, and_true, lenV, yda, Nat.le_refl, if_true, ydq, ydr, yds, ne_eq, not_true_eq_false, not_false_eq_true, ← decide_not, Decidable.not_not, ydt, ydu, ydz, ydv, ydw, List.drop_zero, eq_self, Bool.false_eq_true, List.getElem?_toArray, yea, yeb, List.nil_append, List.cons_append, Bool.false_and, Int.reduceEq, Int.reduceLT, Int.reduceLE, Int.reduceNe, zbc, zbb, yec, yed, yee, yef, ydx, ydy, c0, c1, c2, c3, c4]
    exact bad _ _ f0 (by decide) (fun q => by have := q.few; omega)
  simp only [F141, ↓yaa, ↓yab, ↓yac, ↓yad, ↓yae, ↓yaf, ↓yag, ↓yah, ↓yai, ↓ydb, ↓ydc, ↓ydd, ↓yde, ↓ydf, ↓ydg, ↓yao, ↓yap, ↓ydh, ↓ydi, ↓ydj, ↓ydk, ↓ydl, ↓ydm, ↓ydn, ↓ydo, ↓ydp, ↓yax, yay, yaz, yba, ybb, ybc, ybd, ybe, ybf, ybg, ybh, ybi, ybj, ybk, ybl, ybm, ybn, ybo, ybp, ybq, ybr, ybs, ybt, ybu, ybv, ares, tup, ybw, ybx, yby, argsE, dval, aop, ev, evs, evo, evp, fillL, addrOf, intOf?, ybz, yca, ycb, ycc, ycd, yce, ycf, zah, zag, reduceIte, Nat.reduceEqDiff, ycg, ych, yci, ycj, yck, ycl, ycm, ycn, yco, ycp, ycq, ycr, zap, zao, reduceCtorEq, zbb, zbc, zba, zaz, Nat.reduceAdd, Nat.reduceMul, zaq, zar, eqPtr, zae, zaf, zab, zaa, zac, zad, hload, hstore, zal, zam, Nat.reduceAdd, Nat.reduceLeDiff, zbb, zas, zat, one, zau, zaw, zav, splice, zaj, zak, zab, zaa, ycs, yct, ycu, ycv, ycw, ycx, ycy, ycz, zan, zai, zax, zay, and_self, true_and, and_true, lenV, yda, Nat.le_refl, if_true, ydq, ydr, yds, ne_eq, not_true_eq_false, not_false_eq_true, ← decide_not, Decidable.not_not, ydt, ydu, ydz, ydv, ydw, List.drop_zero, eq_self, Bool.false_eq_true, List.getElem?_toArray, yea, yeb, List.nil_append, List.cons_append, Bool.false_and, Int.reduceEq, Int.reduceLT, Int.reduceLE, Int.reduceNe, zbc, zbb, yec, yed, yee, yef, ydx, ydy, c0, c1, c2, c3, c4]
  generalize H ++ [some (⟨true, [.int .i64 t.node, .int .i64 t.len, .slice a t.cs.length z]⟩ : Blk)] = G at *
  have htv : t.v a z = .agg #[.int .i64 t.node, .int .i64 t.len, .slice a t.cs.length z] := rfl
  apply AW_loop_inv (fun k e H1 => ∃ i : Nat, i + k = t.cs.length ∧ e = [(1, .pointer (some ⟨H.length, 0, none⟩)), (3, .int .i64 (i : Int))] ∧ Frm [] G H1 ∧
    (∀ (m : Nat) (x : TC), m < i → t.cs[m]? = some x → x.Form t.node t.len) ∧ (∀ (m : Nat) (x y : TC), m + 1 < i → t.cs[m]? = some x → t.cs[m + 1]? = some y → x.Lt y)) _ t.cs.length
  · exact ⟨0, by omega, rfl, Frm.refl _ _, fun m x hm => by omega, fun m x y hm => by omega⟩
  · rintro k e H1 ⟨i, hik, rfl, hf, hx, hl⟩
    have gb := hf.gets hg
    cases k with
    | zero =>
      have g0 : ¬ (i : Int) < (t.cs.length : Int) := by omega
      simp only [↓yaa, ↓yab, ↓yac, ↓yad, ↓yae, ↓yaf, ↓yag, ↓yah, ↓yai, ↓ydb, ↓ydc, ↓ydd, ↓yde, ↓ydf, ↓ydg, ↓yao, ↓yap, ↓ydh, ↓ydi, ↓ydj, ↓ydk, ↓ydl, ↓ydm, ↓ydn, ↓ydo, ↓ydp, ↓yax, yay, yaz, yba, ybb, ybc, ybd, ybe, ybf, ybg, ybh, ybi, ybj, ybk, ybl, ybm, ybn, ybo, ybp, ybq, ybr, ybs, ybt, ybu, ybv, ares, tup, ybw, ybx, yby, argsE, dval, aop, ev, evs, evo, evp, fillL, addrOf, intOf?, ybz, yca, ycb, ycc, ycd, yce, ycf, zah, zag, reduceIte, Nat.reduceEqDiff, ycg, ych, yci, ycj, yck, ycl, ycm, ycn, yco, ycp, ycq, ycr, zap, zao, reduceCtorEq, zbb, zbc, zba, zaz, Nat.reduceAdd, Nat.reduceMul, zaq, zar, eqPtr, zae, zaf, zab, zaa, zac, zad, hload, hstore, zal, zam, Nat.reduceAdd, Nat.reduceLeDiff, zbb, zas, zat, one, zau, zaw, zav, splice, zaj, zak, zab, zaa, ycs, yct, ycu, ycv, ycw, ycx, ycy, ycz, zan, zai, zax, zay, and_self, true_and, and_true, lenV, yda, Nat.le_refl, if_true, ydq, ydr, yds, ne_eq, not_true_eq_false, not_false_eq_true, ← decide_not, Decidable.not_not, ydt, ydu, ydz, ydv, ydw, List.drop_zero, eq_self, Bool.false_eq_true, List.getElem?_toArray, yea, yeb, List.nil_append, List.cons_append, Bool.false_and, Int.reduceEq, Int.reduceLT, Int.reduceLE, Int.reduceNe, zbc, zbb, yec, yed, yee, yef, ydx, ydy, g0, gb]
      refine hk _ _ (f0.then hf) ⟨fun _ => ⟨by omega, by omega, by omega, fun m x hm => hx m x (by have := (List.getElem?_eq_some_iff.1 hm).1; omega) hm, fun m x y hm hy => hl m x y (by have := (List.getElem?_eq_some_iff.1 hy).1; omega) hm hy⟩, fun _ => rfl⟩
    | succ k =>
      obtain ⟨x, hix⟩ : ∃ x, t.cs[i]? = some x := ⟨_, List.getElem?_eq_getElem (by omega)⟩
      obtain ⟨b, o, w, cs, rfl, rfl, q1, q2, q3, q4⟩ := (hG.frame0 hf) i x hix
      have lb := hget_lt gb
      have lq := hget_lt q1
      have hxv : x.v = .agg #[.int .i64 x.s, .int .i64 x.c, .int .i64 x.w, .bool x.b, .int .i64 x.p, .int .i64 x.n] := rfl
      have g0 : (i : Int) < (t.cs.length : Int) := by omega
      have g1 : (0 : Int) ≤ (i : Int) := by omega
      have g3 : IntKind.i64.wrap ((i : Int) + 1) = ((i + 1 : Nat) : Int) := by rw [wrap_i64 (by omega) (by omega)]; omega
      simp only [↓yaa, ↓yab, ↓yac, ↓yad, ↓yae, ↓yaf, ↓yag, ↓yah, ↓yai, ↓ydb, ↓ydc, ↓ydd, ↓yde, ↓ydf, ↓ydg, ↓yao, ↓yap, ↓ydh, ↓ydi, ↓ydj, ↓ydk, ↓ydl, ↓ydm, ↓ydn, ↓ydo, ↓ydp, ↓yax, yay, yaz, yba, ybb, ybc, ybd, ybe, ybf, ybg, ybh, ybi, ybj, ybk, ybl, ybm, ybn, ybo, ybp, ybq, ybr, ybs, ybt, ybu, ybv, ares, tup, ybw, ybx, yby, argsE, dval, aop, ev, evs, evo, evp, fillL, addrOf, intOf?, ybz, yca, ycb, ycc, ycd, yce, ycf, zah, zag, reduceIte, Nat.reduceEqDiff, ycg, ych, yci, ycj, yck, ycl, ycm, ycn, yco, ycp, ycq, ycr, zap, zao, reduceCtorEq, zbb, zbc, zba, zaz, Nat.reduceAdd, Nat.reduceMul, zaq, zar, eqPtr, zae, zaf, zab, zaa, zac, zad, hload, hstore, zal, zam, Nat.reduceAdd, Nat.reduceLeDiff, zbb, zas, zat, one, zau, zaw, zav, splice, zaj, zak, zab, zaa, ycs, yct, ycu, ycv, ycw, ycx, ycy, ycz, zan, zai, zax, zay, and_self, true_and, and_true, lenV, yda, Nat.le_refl, if_true, ydq, ydr, yds, ne_eq, not_true_eq_false, not_false_eq_true, ← decide_not, Decidable.not_not, ydt, ydu, ydz, ydv, ydw, List.drop_zero, eq_self, Bool.false_eq_true, List.getElem?_toArray, yea, yeb, List.nil_append, List.cons_append, Bool.false_and, Int.reduceEq, Int.reduceLT, Int.reduceLE, Int.reduceNe, zbc, zbb, yec, yed, yee, yef, ydx, ydy, g0, g1, g3, Int.toNat_natCast, q1, q2, q3, gb, tk6, ls6, sz6, tk3, ls3]
      rw [← htv, ← hxv]
      refine f144 fun H2 n f2 hn => ?_
      have gb2 := f2.gets gb
      have q12 := f2.gets q1
      have f1 := hf.then f2
      by_cases c5 : n = 0
      · have hfm := hn.1 c5
        by_cases c6 : (0 : Int) < (i : Int)
        · obtain ⟨y, hiy⟩ : ∃ y, t.cs[i - 1]? = some y := ⟨_, List.getElem?_eq_getElem (by omega)⟩
          obtain ⟨b', o', w', cs', hh, _, p1, p2, p3, p4⟩ := (hG.frame0 hf) (i - 1) y hiy
          simp only [Option.some.injEq, Addr.mk.injEq, and_true] at hh
          obtain ⟨rfl, rfl⟩ := hh
          rw [q1] at p1
          simp only [Option.some.injEq, Blk.mk.injEq] at p1
          obtain ⟨rfl, rfl⟩ := p1
          have hd := fun G => f157 y x G
          obtain ⟨m, hm, hd⟩ := hd H2
          unfold TC.v at hd
          have g4 : IntKind.i64.wrap ((i : Int) - 1) = ((i - 1 : Nat) : Int) := by rw [wrap_i64 (by omega) (by omega)]; omega
          have g5 : (0 : Int) ≤ ((i - 1 : Nat) : Int) := by omega
          have g6 : ((i - 1 : Nat) : Int) < (t.cs.length : Int) := by omega
          cases m with
          | false =>
            simp only [↓yaa, ↓yab, ↓yac, ↓yad, ↓yae, ↓yaf, ↓yag, ↓yah, ↓yai, ↓ydb, ↓ydc, ↓ydd, ↓yde, ↓ydf, ↓ydg, ↓yao, ↓yap, ↓ydh, ↓ydi, ↓ydj, ↓ydk, ↓ydl, ↓ydm, ↓ydn, ↓ydo, ↓ydp, ↓yax, yay, yaz, yba, ybb, ybc, ybd, ybe, ybf, ybg, ybh, ybi, ybj, ybk, ybl, ybm, ybn, ybo, ybp, ybq, ybr, ybs, ybt, ybu, ybv, ares, tup, ybw, ybx, yby, argsE, dval, aop, ev, evs, evo, evp, fillL, addrOf, intOf?, ybz, yca, ycb, ycc, ycd, yce, ycf, zah, zag, reduceIte, Nat.reduceEqDiff, ycg, ych, yci, ycj, yck, ycl, ycm, ycn, yco, ycp, ycq, ycr, zap, zao, reduceCtorEq, zbb, zbc, zba, zaz, Nat.reduceAdd, Nat.reduceMul, zaq, zar, eqPtr, zae, zaf, zab, zaa, zac, zad, hload, hstore, zal, zam, Nat.reduceAdd, Nat.reduceLeDiff, zbb, zas, zat, one, zau, zaw, zav, splice, zaj, zak, zab, zaa, ycs, yct, ycu, ycv, ycw, ycx, ycy, ycz, zan, zai, zax, zay, and_self, true_and, and_true, lenV, yda, Nat.le_refl, if_true, ydq, ydr, yds, ne_eq, not_true_eq_false, not_false_eq_true, ← decide_not, Decidable.not_not, ydt, ydu, ydz, ydv, ydw, List.drop_zero, eq_self, Bool.false_eq_true, List.getElem?_toArray, yea, yeb, List.nil_append, List.cons_append, Bool.false_and, Int.reduceEq, Int.reduceLT, Int.reduceLE, Int.reduceNe, zbc, zbb, yec, yed, yee, yef, ydx, ydy, g0, g1, g3, g4, g5, g6, Int.toNat_natCast, q12, q2, q3, p2, p3, hd, c5, c6, gb2, tk6, ls6, sz6]
            exact bad _ _ (f0.then f1) (by decide) (fun q => by have := hm.2 (q.lt (i - 1) y x hiy (by rw [show i - 1 + 1 = i by omega]; exact hix)); simp at this)
          | true =>
            simp only [↓yaa, ↓yab, ↓yac, ↓yad, ↓yae, ↓yaf, ↓yag, ↓yah, ↓yai, ↓ydb, ↓ydc, ↓ydd, ↓yde, ↓ydf, ↓ydg, ↓yao, ↓yap, ↓ydh, ↓ydi, ↓ydj, ↓ydk, ↓ydl, ↓ydm, ↓ydn, ↓ydo, ↓ydp, ↓yax, yay, yaz, yba, ybb, ybc, ybd, ybe, ybf, ybg, ybh, ybi, ybj, ybk, ybl, ybm, ybn, ybo, ybp, ybq, ybr, ybs, ybt, ybu, ybv, ares, tup, ybw, ybx, yby, argsE, dval, aop, ev, evs, evo, evp, fillL, addrOf, intOf?, ybz, yca, ycb, ycc, ycd, yce, ycf, zah, zag, reduceIte, Nat.reduceEqDiff, ycg, ych, yci, ycj, yck, ycl, ycm, ycn, yco, ycp, ycq, ycr, zap, zao, reduceCtorEq, zbb, zbc, zba, zaz, Nat.reduceAdd, Nat.reduceMul, zaq, zar, eqPtr, zae, zaf, zab, zaa, zac, zad, hload, hstore, zal, zam, Nat.reduceAdd, Nat.reduceLeDiff, zbb, zas, zat, one, zau, zaw, zav, splice, zaj, zak, zab, zaa, ycs, yct, ycu, ycv, ycw, ycx, ycy, ycz, zan, zai, zax, zay, and_self, true_and, and_true, lenV, yda, Nat.le_refl, if_true, ydq, ydr, yds, ne_eq, not_true_eq_false, not_false_eq_true, ← decide_not, Decidable.not_not, ydt, ydu, ydz, ydv, ydw, List.drop_zero, eq_self, Bool.false_eq_true, List.getElem?_toArray, yea, yeb, List.nil_append, List.cons_append, Bool.false_and, Int.reduceEq, Int.reduceLT, Int.reduceLE, Int.reduceNe, zbc, zbb, yec, yed, yee, yef, ydx, ydy, g0, g1, g3, g4, g5, g6, Int.toNat_natCast, q12, q2, q3, p2, p3, hd, c5, c6, gb2, tk6, ls6, sz6]
            refine ⟨k, by omega, i + 1, by omega, rfl, f1, ?_, ?_⟩
            · intro m' x' hm' hx'
              by_cases e : m' = i
              · subst e; rw [hix] at hx'; injection hx' with hx'; subst hx'; exact hfm
              · exact hx m' x' (by omega) hx'
            · intro m' x' y' hm' hx' hy'
              by_cases e : m' + 1 = i
              · rw [e, hix] at hy'
                injection hy' with hy'; subst hy'
                rw [show m' = i - 1 by omega, hiy] at hx'
                injection hx' with hx'; subst hx'
                exact hm.1 rfl
              · exact hl m' x' y' (by omega) hx' hy'
        · simp only [↓yaa, ↓yab, ↓yac, ↓yad, ↓yae, ↓yaf, ↓yag, ↓yah, ↓yai, ↓ydb, ↓ydc, ↓ydd, ↓yde, ↓ydf, ↓ydg, ↓yao, ↓yap, ↓ydh, ↓ydi, ↓ydj, ↓ydk, ↓ydl, ↓ydm, ↓ydn, ↓ydo, ↓ydp, ↓yax, yay, yaz, yba, ybb, ybc, ybd, ybe, ybf, ybg, ybh, ybi, ybj, ybk, ybl, ybm, ybn, ybo, ybp, ybq, ybr, ybs, ybt, ybu, ybv, ares, tup, ybw, ybx, yby, argsE, dval, aop, ev, evs, evo, evp, fillL, addrOf, intOf?, ybz, yca, ycb, ycc, ycd, yce, ycf, zah, zag, reduceIte, Nat.reduceEqDiff, ycg, ych, yci, ycj, yck, ycl, ycm, ycn, yco, ycp, ycq, ycr, zap, zao, reduceCtorEq, zbb, zbc, zba, zaz, Nat.reduceAdd, Nat.reduceMul, zaq, zar, eqPtr, zae, zaf, zab, zaa, zac, zad, hload, hstore, zal, zam, Nat.reduceAdd, Nat.reduceLeDiff, zbb, zas, zat, one, zau, zaw, zav, splice, zaj, zak, zab, zaa, ycs, yct, ycu, ycv, ycw, ycx, ycy, ycz, zan, zai, zax, zay, and_self, true_and, and_true, lenV, yda, Nat.le_refl, if_true, ydq, ydr, yds, ne_eq, not_true_eq_false, not_false_eq_true, ← decide_not, Decidable.not_not, ydt, ydu, ydz, ydv, ydw, List.drop_zero, eq_self, Bool.false_eq_true, List.getElem?_toArray, yea, yeb, List.nil_append, List.cons_append, Bool.false_and, Int.reduceEq, Int.reduceLT, Int.reduceLE, Int.reduceNe, zbc, zbb, yec, yed, yee, yef, ydx, ydy, g0, g1, g3, Int.toNat_natCast, c5, c6, gb2]
          refine ⟨k, by omega, i + 1, by omega, rfl, f1, ?_, ?_⟩
          · intro m' x' hm' hx'
            have e : m' = i := by omega
            subst e; rw [hix] at hx'; injection hx' with hx'; subst hx'; exact hfm
          · intro m' x' y' hm'; omega
      · simp only [↓yaa, ↓yab, ↓yac, ↓yad, ↓yae, ↓yaf, ↓yag, ↓yah, ↓yai, ↓ydb, ↓ydc, ↓ydd, ↓yde, ↓ydf, ↓ydg, ↓yao, ↓yap, ↓ydh, ↓ydi, ↓ydj, ↓ydk, ↓ydl, ↓ydm, ↓ydn, ↓ydo, ↓ydp, ↓yax, yay, yaz, yba, ybb, ybc, ybd, ybe, ybf, ybg, ybh, ybi, ybj, ybk, ybl, ybm, ybn, ybo, ybp, ybq, ybr, ybs, ybt, ybu, ybv, ares, tup, ybw, ybx, yby, argsE, dval, aop, ev, evs, evo, evp, fillL, addrOf, intOf?, ybz, yca, ycb, ycc, ycd, yce, ycf, zah, zag, reduceIte, Nat.reduceEqDiff, ycg, ych, yci, ycj, yck, ycl, ycm, ycn, yco, ycp, ycq, ycr, zap, zao, reduceCtorEq, zbb, zbc, zba, zaz, Nat.reduceAdd, Nat.reduceMul, zaq, zar, eqPtr, zae, zaf, zab, zaa, zac, zad, hload, hstore, zal, zam, Nat.reduceAdd, Nat.reduceLeDiff, zbb, zas, zat, one, zau, zaw, zav, splice, zaj, zak, zab, zaa, ycs, yct, ycu, ycv, ycw, ycx, ycy, ycz, zan, zai, zax, zay, and_self, true_and, and_true, lenV, yda, Nat.le_refl, if_true, ydq, ydr, yds, ne_eq, not_true_eq_false, not_false_eq_true, ← decide_not, Decidable.not_not, ydt, ydu, ydz, ydv, ydw, List.drop_zero, eq_self, Bool.false_eq_true, List.getElem?_toArray, yea, yeb, List.nil_append, List.cons_append, Bool.false_and, Int.reduceEq, Int.reduceLT, Int.reduceLE, Int.reduceNe, zbc, zbb, yec, yed, yee, yef, ydx, ydy, c5]
        exact bad _ _ (f0.then f1) c5 (fun q => c5 (hn.2 (q.form i x hix)))

end Go.Proofs.Ytejcabdejoameaa.AI

/- Each function of the program is that of the interpreter's table. -/
namespace Go.Proofs.Ytejcabdejoameaa.AI
open Go

def sigL : List (Nat × Nat) := [(101, 3), (102, 4), (103, 5), (104, 6), (105, 7), (106, 8), (107, 9), (108, 10), (109, 11), (110, 12), (111, 13), (112, 14), (113, 15), (114, 16), (115, 17), (116, 18), (117, 19), (118, 20), (119, 21), (120, 22), (121, 23), (122, 24), (123, 25), (124, 26), (125, 27), (126, 28), (127, 29), (128, 30), (129, 31), (130, 32), (131, 33), (132, 34), (133, 35), (13, 36), (25, 37), (39, 38), (38, 39), (134, 40), (17, 41), (14, 42), (43, 43), (45, 44), (46, 45), (135, 46), (18, 47), (136, 48), (137, 49), (138, 50), (139, 51), (140, 52), (141, 53), (142, 54), (143, 55), (144, 56), (145, 57), (146, 58), (21, 59), (40, 60), (41, 61), (42, 62), (147, 63), (23, 64), (28, 65), (29, 66), (31, 67), (32, 68), (37, 69), (148, 70), (149, 71), (150, 72), (151, 73), (152, 74), (50, 75), (49, 76), (55, 77), (24, 78), (56, 79), (58, 80), (59, 81), (54, 82), (153, 83), (154, 84), (155, 85), (156, 86), (157, 87), (158, 88), (159, 89), (160, 90), (51, 91), (57, 92), (33, 93), (48, 94), (47, 95), (52, 96), (53, 97), (34, 98), (161, 99), (162, 100), (163, 101), (60, 102), (61, 103), (164, 104), (165, 105), (166, 106), (167, 107), (168, 108), (169, 109), (170, 110), (171, 111), (172, 112), (173, 113), (174, 114), (175, 115)]
def sig (n : Nat) : Nat := num sigL n
def tauL : List (Nat × Nat) := [(3, 101), (4, 102), (5, 103), (6, 104), (7, 105), (8, 106), (9, 107), (10, 108), (11, 109), (12, 110), (13, 111), (14, 112), (15, 113), (16, 114), (17, 115), (18, 116), (19, 117), (20, 118), (21, 119), (22, 120), (23, 121), (24, 122), (25, 123), (26, 124), (27, 125), (28, 126), (29, 127), (30, 128), (31, 129), (32, 130), (33, 131), (34, 132), (35, 133), (36, 13), (37, 25), (38, 39), (39, 38), (40, 134), (41, 17), (42, 14), (43, 43), (44, 45), (45, 46), (46, 135), (47, 18), (48, 136), (49, 137), (50, 138), (51, 139), (52, 140), (53, 141), (54, 142), (55, 143), (56, 144), (57, 145), (58, 146), (59, 21), (60, 40), (61, 41), (62, 42), (63, 147), (64, 23), (65, 28), (66, 29), (67, 31), (68, 32), (69, 37), (70, 148), (71, 149), (72, 150), (73, 151), (74, 152), (75, 50), (76, 49), (77, 55), (78, 24), (79, 56), (80, 58), (81, 59), (82, 54), (83, 153), (84, 154), (85, 155), (86, 156), (87, 157), (88, 158), (89, 159), (90, 160), (91, 51), (92, 57), (93, 33), (94, 48), (95, 47), (96, 52), (97, 53), (98, 34), (99, 161), (100, 162), (101, 163), (102, 60), (103, 61), (104, 164), (105, 165), (106, 166), (107, 167), (108, 168), (109, 169), (110, 170), (111, 171), (112, 172), (113, 173), (114, 174), (115, 175)]
def tau (n : Nat) : Nat := num tauL n

theorem link101 : compF Try.prog tau sig (find [(0, [1]), (1, [1, 8]), (2, [2]), (3, [1, 11]), (4, [2]), (5, [1, 3, 4]), (6, [1, 3, 4, 5, 6]), (7, [2])]) (findO [(7, [(0, 0), (1, 0), (2, 1), (3, 0), (4, 0), (5, 0), (6, 0), (7, 0), (8, 0), (9, 0), (10, 0), (11, 0), (12, 0), (13, 0), (14, 0), (15, 0)])]) Try.f3 false false = some F101 := by kernel_rfl
theorem link102 : compF Try.prog tau sig (find [(0, [1, 2, 3]), (1, [1, 2, 3, 16]), (2, [6]), (3, [1, 2, 3, 41]), (4, [6]), (5, [1, 2, 3, 7, 8]), (6, [1, 2, 3, 7, 8, 9, 10]), (7, [1, 2, 3, 7, 8, 9, 10, 11, 12]), (8, [1, 2, 3, 7, 8, 9, 10, 11, 12, 13, 14]), (9, [6])]) (findO [(9, [(0, 0), (1, 0), (2, 0), (3, 0), (4, 0), (5, 0), (6, 0), (7, 0), (8, 0), (9, 0), (10, 0), (11, 0), (12, 0), (13, 0), (14, 0), (15, 0), (16, 0), (17, 0), (18, 0), (19, 0), (20, 0), (21, 0), (22, 0), (23, 1), (24, 0), (25, 0), (26, 0), (27, 0), (28, 0), (29, 0)])]) Try.f4 false false = some F102 := by kernel_rfl
theorem link103 : compF Try.prog tau sig (find [(0, [0, 1, 2, 3, 4]), (1, [0, 1, 2, 3, 4, 20]), (2, [10]), (3, [0, 1, 2, 3, 4, 23]), (4, [10]), (5, [0, 1, 2, 4, 11]), (6, [0, 4, 11, 12, 13]), (7, [4, 11, 12, 13, 36, 37, 38]), (8, [4, 11, 12, 13, 36, 37, 38, 39]), (9, [4, 11, 12, 13, 15, 36, 37, 38]), (10, [4, 11, 12, 13, 16, 17, 36, 37, 38]), (11, [4, 11, 12, 13, 16, 36, 37, 38, 52]), (12, [4, 11, 12, 13, 36, 37, 38]), (13, [4, 11, 12, 13, 36, 37, 38]), (14, [4, 11, 12, 13]), (15, [11, 12, 13, 18]), (16, [10])]) (findO [(10, [(1, 0), (2, 0), (3, 0), (4, 0), (0, 1), (5, 0), (6, 0), (7, 0), (8, 0), (9, 0), (10, 0), (11, 0)]), (16, [(0, 0), (1, 0), (2, 0), (3, 0), (4, 0), (5, 0), (6, 0), (7, 0), (8, 0), (9, 0), (10, 0), (11, 0), (12, 0), (13, 0)])]) Try.f5 false false = some F103 := by kernel_rfl
theorem link104 : compF Try.prog tau sig (find [(0, [0, 1, 2, 3]), (1, [0, 1, 2, 3, 24]), (2, [8]), (3, [0, 1, 2, 3, 27]), (4, [8]), (5, [0, 1, 3, 9]), (6, [0, 3, 9, 10]), (7, [3, 9, 10, 36, 37, 38]), (8, [3, 9, 10, 36, 37, 38, 39]), (9, [3, 9, 10, 12, 36, 37, 38]), (10, [3, 9, 10, 13, 14, 36, 37, 38]), (11, [3, 9, 10, 13, 36, 37, 38, 52]), (12, [3, 9, 10, 36, 37, 38]), (13, [3, 9, 10, 36, 37, 38]), (14, [3, 9, 10, 15, 16]), (15, [3, 9, 10, 15, 16, 66]), (16, [8]), (17, [3, 9, 10, 15, 80]), (18, [8]), (19, [3, 9, 10, 15, 17, 18, 19]), (20, [3, 9, 10, 15, 17, 18, 19, 20]), (21, [3, 9, 10, 15, 17, 18, 19, 20, 85]), (23, [3, 9, 10, 15, 17, 18, 19, 20, 94]), (24, [8]), (25, [3, 9, 10, 15, 17, 18, 19, 20, 21, 22]), (26, [3, 9, 10, 15, 17, 18, 19, 20, 21, 103]), (27, [3, 9, 10, 15, 17, 18, 19, 20, 107]), (28, [8]), (29, [3, 9, 10, 15, 17, 18, 19, 20, 21]), (30, [3, 9, 10, 15, 17, 18, 19, 20, 21, 129]), (31, [8]), (32, [3, 9, 10, 15, 17, 18, 19, 20, 135]), (33, [3, 9, 10, 15, 17, 18, 19, 20]), (34, [3, 9, 10, 15, 18, 19, 20, 143]), (35, [8]), (36, [3, 9, 10, 15, 17, 18, 19, 20]), (22, [3, 9, 10, 15, 17, 18, 19, 20]), (37, [8])]) (findO [(10, [(1, 0), (2, 0), (3, 0), (4, 0), (0, 1), (5, 0), (6, 0), (7, 0), (8, 0), (9, 0), (10, 0), (11, 0)]), (30, [(0, 0), (1, 0), (2, 0), (3, 0), (4, 0), (5, 0), (6, 0), (7, 0), (8, 0), (9, 0), (10, 0), (11, 0), (12, 0), (13, 0), (14, 1), (15, 0), (16, 0), (17, 0), (18, 0), (19, 0)])]) Try.f6 false false = some F104 := by kernel_rfl
theorem link105 : compF Try.prog tau sig (find [(0, [0]), (1, [0, 8]), (2, [2]), (3, [0, 11]), (4, [2]), (5, [0, 3, 4]), (6, [3, 4, 5, 6]), (7, [2])]) (findO []) Try.f7 false false = some F105 := by kernel_rfl
theorem link106 : compF Try.prog tau sig (find [(0, [3, 4, 5]), (1, [3, 4, 5, 9]), (2, [6]), (3, [3, 4, 5, 25]), (4, [6]), (5, [3, 4, 5, 7]), (6, [3, 4, 7, 54]), (7, [6]), (8, [3, 4, 64]), (9, [6]), (10, [6])]) (findO [(10, [(0, 0), (1, 0), (2, 0), (3, 0), (4, 0), (5, 0), (6, 0), (7, 0), (8, 0), (9, 1), (10, 1), (11, 0), (12, 0), (13, 0), (14, 0)])]) Try.f8 false false = some F106 := by kernel_rfl
theorem link107 : compF Try.prog tau sig (find [(0, [1, 3, 4, 6]), (1, [1, 3, 4, 6, 22]), (2, [8]), (3, [1, 3, 4, 6, 30]), (4, [8]), (5, [1, 3, 4, 6, 9, 10]), (6, [1, 3, 4, 6, 9, 37]), (7, [1, 3, 4, 6, 11, 12]), (8, [3, 4, 6, 49]), (9, [8]), (10, [3, 4, 6, 13, 14]), (11, [3, 4, 6, 13, 14, 56]), (12, [8]), (13, [3, 4, 6, 13, 15, 16]), (14, [3, 4, 6, 82]), (15, [8]), (16, [3, 4, 6, 17, 18]), (17, [3, 4, 6, 17, 18, 91]), (18, [8]), (19, [3, 4, 6, 17, 19, 20]), (20, [8])]) (findO []) Try.f9 false false = some F107 := by kernel_rfl
theorem link108 : compF Try.prog tau sig (find [(0, [1, 2, 3, 7, 11, 12, 13]), (1, [1, 2, 3, 7, 11, 12, 13, 24]), (2, [14]), (3, [1, 2, 3, 7, 11, 12, 13, 39]), (4, [14]), (5, [1, 2, 3, 7, 11, 12, 13, 15, 16]), (6, [12, 13, 15, 16, 17, 18]), (7, [12, 13, 15, 16, 17, 18, 19, 20]), (8, [12, 13, 15, 16, 17, 18, 19, 20, 21, 22]), (9, [14])]) (findO [(9, [(0, 0), (1, 0), (2, 0), (3, 0), (4, 0), (5, 0), (6, 0), (7, 0), (8, 0), (9, 0), (10, 0), (11, 0), (12, 0), (13, 0), (14, 0), (15, 0), (16, 0), (17, 0), (18, 0), (19, 0), (20, 0), (21, 0), (22, 1), (23, 1), (24, 0), (25, 0), (26, 0), (27, 0)])]) Try.f10 false false = some F108 := by kernel_rfl
theorem link109 : compF Try.prog tau sig (find [(0, []), (1, [1]), (2, [1, 2, 3]), (3, [1, 2, 3, 4, 5]), (4, [1, 2, 3, 4, 5, 6, 7]), (5, [0])]) (findO []) Try.f11 true true = some F109 := by kernel_rfl
theorem link110 : compF Try.prog tau sig (find [(0, [1]), (1, [2])]) (findO []) Try.f12 false false = some F110 := by kernel_rfl
theorem link111 : compF Try.prog tau sig (find [(0, [1]), (1, [1, 4]), (2, [1, 4, 11]), (3, [2, 3]), (4, [1, 5]), (5, [1, 5]), (6, [1, 5]), (7, [1, 5]), (8, [1, 5]), (9, [1, 5, 35]), (10, [1, 5]), (11, [1, 5]), (12, [1, 5]), (13, [1, 5]), (14, [5, 60, 61, 62]), (15, [5, 60, 61, 62, 63]), (16, [5, 7, 60, 61, 62]), (17, [5, 60, 61, 62]), (18, [5, 60, 61, 62]), (19, [2, 3])]) (findO []) Try.f13 false false = some F111 := by kernel_rfl
theorem link112 : compF Try.prog tau sig (find [(0, [1]), (1, [1, 4]), (2, [1, 4, 10]), (3, [2, 3]), (4, [1, 5]), (5, [1, 5]), (6, [1, 5]), (7, [1, 5]), (8, [1, 5]), (9, [1, 5, 34]), (10, [1, 5]), (11, [1, 5]), (12, [1, 5]), (13, [1, 5]), (14, [1, 5, 6]), (15, [1, 5, 6, 62]), (17, [1, 5, 6]), (16, [1, 5, 6]), (18, [2, 3])]) (findO []) Try.f14 false false = some F112 := by kernel_rfl
theorem link113 : compF Try.prog tau sig (find [(0, [1]), (1, [1, 3]), (2, [2]), (3, [1, 12]), (4, [2]), (5, [17]), (6, [2]), (7, [2])]) (findO []) Try.f15 false false = some F113 := by kernel_rfl
theorem link114 : compF Try.prog tau sig (find [(0, [1]), (1, [1, 10]), (2, [2]), (3, [1, 14]), (4, [2]), (5, [24]), (6, [2]), (7, [2])]) (findO []) Try.f16 false false = some F114 := by kernel_rfl
theorem link115 : compF Try.prog tau sig (find [(0, [1]), (1, [2])]) (findO []) Try.f17 false false = some F115 := by kernel_rfl
theorem link116 : compF Try.prog tau sig (find [(0, [1, 2, 3]), (1, [1, 2, 3, 19]), (2, [6, 7]), (3, [1, 2, 3, 8, 9]), (4, [1, 2, 3, 9, 10, 11]), (5, [1, 2, 3, 9, 10, 35]), (6, [6, 7]), (7, [6, 7])]) (findO []) Try.f18 false false = some F116 := by kernel_rfl
theorem link117 : compF Try.prog tau sig (find [(0, [1, 2, 3]), (1, [1, 2, 3, 27]), (2, [6, 7]), (3, [1, 2, 3, 8, 9, 10]), (4, [1, 2, 3, 8, 9, 10, 11]), (5, [1, 2, 3, 8, 9, 10, 11, 32]), (7, [1, 2, 3, 8, 9, 10, 11, 12]), (8, [1, 2, 3, 8, 9, 10, 11, 12, 42]), (9, [1, 2, 3, 8, 9, 10, 11, 12]), (10, [1, 2, 3, 8, 9, 10, 11, 12, 51]), (11, [1, 2, 3, 8, 9, 10, 11, 12]), (12, [1, 2, 3, 8, 9, 10, 11, 60]), (13, [1, 2, 3, 8, 9, 10, 11]), (6, [1, 2, 3, 8, 9, 10, 11]), (14, [1, 2, 3, 8, 9, 62]), (15, [6, 7]), (16, [6, 7])]) (findO [(10, [(0, 0), (1, 0), (2, 0), (3, 0), (4, 0), (5, 0), (6, 0)]), (12, [(0, 0), (1, 0), (2, 0), (3, 0), (4, 0), (5, 0), (6, 0)])]) Try.f19 false false = some F117 := by kernel_rfl
theorem link118 : compF Try.prog tau sig (find [(0, [1, 2, 3]), (1, [1, 2, 3, 26]), (2, [6, 7]), (3, [1, 2, 3, 8]), (4, [1, 2, 3, 8, 31, 32, 33]), (5, [1, 2, 3, 8, 31, 32, 33, 34]), (6, [1, 2, 3, 8, 10, 31, 32, 33]), (7, [1, 2, 3, 8, 10, 11, 31, 32, 33]), (8, [1, 2, 3, 8, 10, 31, 32, 33, 51]), (9, [1, 2, 3, 8, 31, 32, 33]), (10, [1, 2, 3, 8, 31, 32, 33]), (11, [1, 2, 3, 8, 13, 14]), (12, [1, 2, 3, 8, 13, 14, 65, 66]), (13, [1, 2, 3, 8, 13, 14, 65, 66, 67]), (14, [1, 2, 3, 8, 13, 14, 15, 65, 66]), (15, [1, 2, 3, 8, 13, 14, 16, 65, 66]), (16, [1, 2, 3, 8, 13, 14, 16, 65, 66, 73]), (17, [1, 2, 3, 8, 13, 14, 16, 65, 66, 81]), (18, [1, 2, 3, 8, 13, 14, 16, 17, 65, 66]), (19, [1, 2, 3, 8, 13, 14, 16, 65, 66, 107]), (20, [6, 7]), (21, [1, 2, 3, 8, 13, 14, 65, 66]), (22, [6, 7])]) (findO [(19, [(0, 0), (1, 0), (2, 0), (3, 0), (4, 0), (5, 0), (6, 0), (7, 0), (8, 0), (9, 0), (10, 0), (11, 0), (12, 0), (13, 0), (14, 0), (15, 0), (16, 0)])]) Try.f20 false false = some F118 := by kernel_rfl
theorem link119 : compF Try.prog tau sig (find [(0, [1, 2, 3]), (1, [1, 2, 3, 23]), (2, [6, 7]), (3, [1, 2, 3, 8]), (4, [1, 2, 3, 8, 30]), (6, [1, 2, 3, 8, 38]), (7, [6, 7]), (5, [1, 2, 3, 8]), (8, [6, 7])]) (findO []) Try.f21 false false = some F119 := by kernel_rfl
theorem link120 : compF Try.prog tau sig (find [(0, [1, 2, 3]), (1, [1, 2, 3, 7, 8]), (2, [2, 3, 7, 8, 9, 10]), (3, [6])]) (findO []) Try.f22 false false = some F120 := by kernel_rfl
theorem link121 : compF Try.prog tau sig (find [(0, [1, 2, 3]), (1, [1, 2, 3, 7, 8]), (2, [2, 3, 7, 8, 9, 10]), (3, [6])]) (findO []) Try.f23 false false = some F121 := by kernel_rfl
theorem link122 : compF Try.prog tau sig (find [(0, [2, 3, 4]), (1, [2, 3, 4, 9]), (2, [4, 5]), (3, [2, 3, 4, 6]), (4, [2, 3, 4, 6, 15]), (5, [4, 5]), (6, [2, 3, 4, 24]), (7, [4, 5]), (8, [2, 3, 4, 29]), (9, [4, 5]), (10, [4, 5])]) (findO [(10, [(0, 0), (2, 0), (4, 0), (5, 0), (6, 0), (7, 0), (1, 1), (3, 1), (8, 0), (9, 0), (10, 0)])]) Try.f24 false false = some F122 := by kernel_rfl
theorem link123 : compF Try.prog tau sig (find [(0, [0, 2]), (1, [2])]) (findO []) Try.f25 true true = some F123 := by kernel_rfl
theorem link124 : compF Try.prog tau sig (find [(0, [0, 2]), (1, [2, 4]), (2, [2, 4, 5]), (3, [2, 4, 5, 16]), (4, [2, 4, 5]), (5, [2, 4, 5, 23]), (6, [2, 3]), (7, [2, 5, 32]), (8, [2, 3]), (9, [2, 3])]) (findO []) Try.f26 false false = some F124 := by kernel_rfl
theorem link125 : compF Try.prog tau sig (find [(0, [0, 2]), (1, [2, 4]), (2, [2, 4, 5]), (3, [2, 4, 5]), (4, [2, 4, 5]), (5, [2, 4, 5, 6]), (6, [2, 4, 5, 6, 22]), (7, [2, 4, 5, 6]), (8, [2, 4, 5, 6]), (9, [2, 4, 5, 6]), (10, [2, 4, 5, 6, 7]), (11, [2, 4, 5, 6, 7, 8]), (12, [2, 4, 5, 6, 7, 8, 40]), (14, [2, 4, 5, 6, 7, 8]), (13, [2, 4, 5, 6, 7, 8]), (15, [2, 5, 66]), (16, [2, 3]), (17, [2, 3])]) (findO [(14, [(0, 0), (1, 0), (3, 0), (4, 0), (5, 0), (2, 2), (6, 0), (7, 0), (8, 0), (9, 0)])]) Try.f27 false false = some F125 := by kernel_rfl
theorem link126 : compF Try.prog tau sig (find [(0, [2, 3]), (1, [4])]) (findO []) Try.f28 false false = some F126 := by kernel_rfl
theorem link127 : compF Try.prog tau sig (find [(0, [1]), (1, [4]), (2, [2])]) (findO []) Try.f29 true true = some F127 := by kernel_rfl
theorem link128 : compF Try.prog tau sig (find [(0, [1, 2]), (1, [1, 2, 6]), (2, [2, 3]), (3, [2, 3])]) (findO []) Try.f30 false false = some F128 := by kernel_rfl
theorem link129 : compF Try.prog tau sig (find [(0, [2, 3]), (1, [2, 3, 5]), (2, [4]), (3, [2, 3, 14]), (4, [4]), (5, [2, 3, 25]), (6, [4]), (7, [4])]) (findO []) Try.f31 true true = some F129 := by kernel_rfl
theorem link130 : compF Try.prog tau sig (find [(0, [1, 2, 3, 5, 9, 10]), (1, [1, 2, 3, 5, 10, 12, 13]), (2, [1, 2, 3, 5, 10, 12, 13, 21]), (3, [10, 11]), (4, [1, 2, 3, 5, 10, 12, 26]), (5, [10, 11]), (6, [10, 14]), (7, [10, 14, 41]), (8, [10, 11]), (9, [10, 11])]) (findO []) Try.f32 false false = some F130 := by kernel_rfl
theorem link131 : compF Try.prog tau sig (find [(0, [1, 2, 3, 5, 9, 10]), (1, [1, 2, 3, 5, 10, 12, 13]), (2, [1, 2, 3, 5, 10, 12, 13, 21]), (3, [10, 11]), (4, [1, 2, 3, 5, 10, 12, 26]), (5, [10, 11]), (6, [10, 14]), (7, [10, 14, 41]), (8, [10, 11]), (9, [10, 11])]) (findO []) Try.f33 false false = some F131 := by kernel_rfl
theorem link132 : compF Try.prog tau sig (find [(0, [1, 2]), (1, [1, 2, 6]), (2, [2, 3]), (3, [2, 3])]) (findO []) Try.f34 false false = some F132 := by kernel_rfl
theorem link133 : compF Try.prog tau sig (find [(0, [2, 3]), (1, [2, 3, 12]), (2, [4]), (3, [2, 3, 17]), (4, [4]), (5, [2, 3, 27]), (6, [4]), (7, [4])]) (findO []) Try.f35 true true = some F133 := by kernel_rfl
theorem link13 : compF Try.prog tau sig (find [(0, []), (1, [0])]) (findO []) Try.f36 false false = some F13 := by kernel_rfl
theorem link25 : compF Try.prog tau sig (find [(0, [0, 1, 2, 6]), (1, [])]) (findO []) Try.f37 false false = some F25 := by kernel_rfl
theorem link39 : compF Try.prog tau sig (find [(0, [0, 1, 4]), (1, [0, 4, 5]), (2, [0, 4]), (3, [])]) (findO []) Try.f38 false false = some F39 := by kernel_rfl
theorem link38 : compF Try.prog tau sig (find [(6, [0, 1, 2, 26]), (7, [0, 1, 2, 32]), (8, []), (9, [0, 1, 2, 39]), (10, []), (0, [0, 2]), (1, [0, 2, 15, 16]), (2, [0, 2, 15, 16, 17]), (3, [0, 2, 6, 15, 16]), (4, [0, 2, 15, 16]), (5, [0, 2, 15, 16])]) (findO [(9, [(0, 0), (1, 0), (2, 0), (3, 0), (4, 0), (5, 0), (6, 0), (7, 0), (9, 0), (10, 0), (8, 1), (11, 0), (12, 0), (13, 0), (14, 0), (15, 0), (16, 0), (17, 0), (18, 0)])]) Try.f39 false false = some F38 := by kernel_rfl
theorem link134 : compF Try.prog tau sig (find [(0, [1]), (1, [2])]) (findO []) Try.f40 false false = some F134 := by kernel_rfl
theorem link17 : compF Try.prog tau sig (find [(0, [0]), (1, [0, 8]), (2, [2, 3]), (3, [2, 3])]) (findO [(2, [(0, 0), (1, 0), (2, 0), (3, 0), (4, 0), (5, 0)])]) Try.f41 false false = some F17 := by kernel_rfl
theorem link14 : compF Try.prog tau sig (find [(0, []), (1, [0])]) (findO []) Try.f42 false false = some F14 := by kernel_rfl
theorem link43 : compF Try.prog tau sig (find [(0, [0, 1, 2, 10]), (1, [0, 1, 2, 16]), (2, []), (3, [0, 1, 2, 31]), (4, []), (5, [0, 1, 2, 37]), (6, [])]) (findO []) Try.f43 false false = some F43 := by kernel_rfl
theorem link45 : compF Try.prog tau sig (find [(0, [0, 1, 6]), (1, [0, 7]), (2, []), (3, [])]) (findO []) Try.f44 false false = some F45 := by kernel_rfl
theorem link46 : compF Try.prog tau sig (find [(0, [0, 1, 2, 11]), (1, [0, 1, 2, 17]), (2, []), (3, [0, 1, 2, 24]), (4, []), (5, [0, 1, 2, 36]), (6, [0, 2]), (7, [0, 2, 6]), (8, [0, 2, 6, 46]), (10, [0, 2, 6]), (9, [0, 2, 6])]) (findO []) Try.f45 false false = some F46 := by kernel_rfl
theorem link135 : compF Try.prog tau sig (find [(0, [1]), (1, [2])]) (findO []) Try.f46 false false = some F135 := by kernel_rfl
theorem link18 : compF Try.prog tau sig (find [(0, [0]), (1, [0, 10]), (2, [2, 3]), (3, [0, 4]), (4, [0, 4, 5]), (5, [0, 4, 5, 29]), (7, [0, 4, 5]), (6, [0, 4, 5]), (8, [2, 3])]) (findO [(2, [(0, 0), (1, 0), (2, 0), (3, 0), (4, 0), (5, 0)]), (7, [(0, 0), (1, 0), (2, 0), (3, 0), (4, 0), (5, 0), (6, 0), (7, 0), (8, 0), (9, 0), (10, 0), (11, 0), (12, 0), (13, 0), (14, 0), (15, 0), (16, 0), (17, 0), (18, 0), (19, 0), (20, 0), (21, 0)])]) Try.f47 false false = some F18 := by kernel_rfl
theorem link136 : compF Try.prog tau sig (find [(0, [1]), (1, [33]), (2, [2]), (3, [2])]) (findO []) Try.f48 false false = some F136 := by kernel_rfl
theorem link137 : compF Try.prog tau sig (find [(0, [1]), (1, [33]), (2, [2]), (3, [2])]) (findO []) Try.f49 false false = some F137 := by kernel_rfl
theorem link138 : compF Try.prog tau sig (find [(0, [0]), (1, [2])]) (findO []) Try.f50 true true = some F138 := by kernel_rfl
theorem link139 : compF Try.prog tau sig (find [(0, [1, 2]), (1, [4])]) (findO []) Try.f51 false false = some F139 := by kernel_rfl
theorem link140 : compF Try.prog tau sig (find [(0, [1]), (1, [1, 4]), (2, [1, 4, 8, 9, 10]), (3, [1, 4, 8, 9, 10, 11]), (4, [1, 4, 6, 8, 9, 10]), (5, [1, 4, 8, 9, 10, 16]), (6, [1, 4, 8, 9, 10]), (7, [1, 4, 8, 9, 10]), (8, [2, 3])]) (findO []) Try.f52 false false = some F140 := by kernel_rfl
theorem link141 : compF Try.prog tau sig (find [(0, [1]), (1, [1, 22]), (2, [2]), (3, [1, 26]), (4, [2]), (5, [1, 3]), (6, [1, 3, 31]), (8, [1, 3, 4]), (9, [1, 3, 4, 42]), (10, [2]), (11, [1, 3, 60]), (12, [2]), (7, [1, 3]), (13, [2])]) (findO [(8, [(0, 0), (1, 0), (2, 0), (3, 0), (4, 0), (5, 0), (6, 0), (7, 0)]), (11, [(0, 0), (1, 0), (2, 0), (3, 0), (4, 0), (5, 0), (6, 0), (7, 0), (8, 0), (9, 0), (10, 0), (11, 0), (12, 0), (13, 0), (14, 0), (15, 0), (16, 0)])]) Try.f53 false false = some F141 := by kernel_rfl
theorem link142 : compF Try.prog tau sig (find [(0, [1, 2, 4]), (1, [1, 2, 4, 14]), (2, [4, 5]), (3, [1, 2, 4, 6]), (4, [2, 4, 6, 43]), (5, [4, 5]), (6, [4, 5])]) (findO [(3, [(0, 0), (1, 0), (2, 0), (3, 0), (4, 0), (5, 0), (6, 0), (7, 0), (8, 0), (9, 0), (10, 0), (11, 0)]), (4, [(0, 0), (1, 0), (2, 0), (3, 0), (4, 0), (5, 0), (6, 0), (7, 0), (8, 0), (9, 0), (10, 0), (11, 0), (12, 0), (13, 0), (14, 0), (15, 0), (16, 0), (17, 0)])]) Try.f54 false false = some F142 := by kernel_rfl
theorem link143 : compF Try.prog tau sig (find [(0, [1, 2, 4]), (1, [1, 2, 4, 13]), (2, [4, 5]), (3, [1, 2, 4, 6]), (4, [1, 2, 4, 6, 19]), (6, [1, 2, 4, 6, 32]), (7, [4, 5]), (5, [1, 2, 4, 6]), (8, [4, 5])]) (findO [(6, [(0, 0), (1, 0), (2, 0), (3, 0), (4, 0), (5, 0), (6, 0), (7, 0), (8, 0), (9, 0), (10, 0)])]) Try.f55 false false = some F143 := by kernel_rfl
theorem link144 : compF Try.prog tau sig (find [(0, [2, 3]), (1, [2, 3, 12]), (2, [4]), (3, [2, 3, 34]), (4, [4]), (5, [2, 3, 54]), (6, [4]), (7, [84]), (8, [4]), (9, [4])]) (findO []) Try.f56 false false = some F144 := by kernel_rfl
theorem link145 : compF Try.prog tau sig (find [(0, [0, 1, 2]), (1, [0, 1, 2, 7]), (2, [0, 1, 2, 7, 11]), (4, [0, 1, 2, 7, 29]), (5, [6]), (3, [0, 1, 2, 7]), (6, [6])]) (findO []) Try.f57 false false = some F145 := by kernel_rfl
theorem link146 : compF Try.prog tau sig (find [(0, [0, 3]), (1, [0, 3, 5]), (2, [0, 3, 5, 6]), (3, [0, 3, 5, 6, 18]), (5, [0, 3, 5, 6]), (4, [0, 3, 5, 6]), (6, [0, 5, 6]), (7, [4])]) (findO [(3, [(0, 0), (1, 0), (2, 0), (3, 0), (4, 0), (5, 0), (6, 0), (7, 0), (8, 0), (9, 0), (10, 0), (11, 0)])]) Try.f58 false false = some F146 := by kernel_rfl
theorem link21 : compF Try.prog tau sig (find [(0, [0]), (1, [0, 5]), (2, [2]), (3, [2])]) (findO []) Try.f59 false false = some F21 := by kernel_rfl
theorem link40 : compF Try.prog tau sig (find [(0, [0, 1]), (1, [4])]) (findO []) Try.f60 false false = some F40 := by kernel_rfl
theorem link41 : compF Try.prog tau sig (find [(0, [0]), (1, [2])]) (findO []) Try.f61 false false = some F41 := by kernel_rfl
theorem link42 : compF Try.prog tau sig (find [(0, [0, 1]), (1, [0, 1, 5]), (2, [0, 1, 5, 16]), (3, [4]), (4, [0, 5, 22]), (5, []), (6, [4]), (7, [0, 5, 28]), (8, []), (9, [4]), (10, [5, 6]), (11, [6, 7]), (12, [6, 7, 41, 42]), (13, [6, 7, 41, 42, 43]), (14, [6, 7, 8, 41, 42]), (15, [6, 7, 41, 42]), (16, [6, 7, 41, 42]), (17, [4])]) (findO []) Try.f62 false false = some F42 := by kernel_rfl
theorem link147 : compF Try.prog tau sig (find [(0, [0, 2]), (1, [0, 2, 3]), (2, [0, 2, 3, 13, 14]), (3, [0, 2, 3, 13, 14, 15]), (4, [0, 2, 3, 13, 14]), (5, [0, 2, 3, 13, 14]), (6, [2])]) (findO [(4, [(0, 0), (2, 0), (3, 0), (4, 0), (1, 2), (5, 0), (6, 0), (7, 0)])]) Try.f63 false false = some F147 := by kernel_rfl
theorem link23 : compF Try.prog tau sig (find [(0, [1]), (1, [1, 8]), (2, [2]), (3, [1, 3]), (4, [20]), (5, [2]), (6, [2])]) (findO []) Try.f64 false false = some F23 := by kernel_rfl
theorem link28 : compF Try.prog tau sig (find [(0, [0]), (1, [0, 5]), (2, [2]), (3, [2])]) (findO []) Try.f65 false false = some F28 := by kernel_rfl
theorem link29 : compF Try.prog tau sig (find [(0, [0, 1]), (1, [0, 1, 17]), (2, [0, 1]), (3, [4])]) (findO []) Try.f66 false false = some F29 := by kernel_rfl
theorem link31 : compF Try.prog tau sig (find [(0, [0]), (1, [2])]) (findO []) Try.f67 false false = some F31 := by kernel_rfl
theorem link32 : compF Try.prog tau sig (find [(0, [0, 1]), (1, [0, 1, 20]), (2, [0, 1]), (3, [0, 1, 5]), (4, [0, 5, 36]), (5, [0, 5]), (6, [0, 5, 50]), (7, [0, 5]), (8, [0, 5, 57]), (9, [4]), (10, [0, 5, 6]), (11, [0, 5, 6, 7]), (12, [0, 5, 6, 7, 62]), (14, [0, 5, 6, 7]), (13, [0, 5, 6, 7]), (15, [4])]) (findO []) Try.f68 false false = some F32 := by kernel_rfl
theorem link37 : compF Try.prog tau sig (find [(0, [0]), (1, [0, 8]), (2, [2]), (3, [0, 15]), (4, [2]), (5, [0, 3]), (6, [0, 3, 27]), (8, [0, 3, 43]), (9, [2]), (7, [0, 3]), (10, [2])]) (findO []) Try.f69 false false = some F37 := by kernel_rfl
theorem link148 : compF Try.prog tau sig (find [(0, [2, 3]), (1, [2, 3, 33]), (2, [4]), (3, [2, 3, 5]), (4, [2, 3, 5, 38]), (6, [2, 3, 5, 51]), (7, [4]), (5, [2, 3, 5]), (8, [4])]) (findO [(6, [(0, 0), (1, 0), (2, 0), (3, 0), (4, 0), (5, 0), (6, 0), (7, 0), (8, 0), (9, 0), (10, 0)])]) Try.f70 false false = some F148 := by kernel_rfl
theorem link149 : compF Try.prog tau sig (find [(0, [1]), (1, [2])]) (findO []) Try.f71 true true = some F149 := by kernel_rfl
theorem link150 : compF Try.prog tau sig (find [(0, [1]), (1, [1, 3, 4]), (2, [1, 3, 4, 5]), (3, [46]), (4, [2]), (5, [2])]) (findO []) Try.f72 true true = some F150 := by kernel_rfl
theorem link151 : compF Try.prog tau sig (find [(0, [1]), (1, [1, 3, 4, 5, 6]), (2, [1, 3, 4, 5, 50]), (3, [2]), (4, [1, 3, 4, 5, 51]), (5, [1, 3, 4, 5, 51]), (6, [1, 3, 4, 5, 51]), (7, [2]), (8, [1, 4, 5, 82]), (9, [1, 4, 5, 82]), (10, [1, 4, 82]), (11, [1, 82]), (12, [2]), (13, [125]), (14, [2]), (15, [2])]) (findO [(1, [(0, 0), (1, 0), (2, 0), (3, 0), (4, 0), (5, 0), (6, 0), (7, 0), (8, 0), (9, 0), (10, 0), (11, 0), (12, 0), (13, 0), (14, 0), (15, 0)])]) Try.f73 true true = some F151 := by kernel_rfl
theorem link152 : compF Try.prog tau sig (find [(0, [1]), (1, [2])]) (findO []) Try.f74 true true = some F152 := by kernel_rfl
theorem link50 : compF Try.prog tau sig (find [(1, [0, 1, 2, 3, 4, 15]), (2, [0, 2, 3, 4, 21]), (3, []), (4, [0, 3, 4, 27]), (5, []), (6, [0, 3, 4, 33]), (7, []), (0, [])]) (findO []) Try.f75 false false = some F50 := by kernel_rfl
theorem link49 : compF Try.prog tau sig (find [(0, [0]), (1, [2]), (2, [2])]) (findO []) Try.f76 true true = some F49 := by kernel_rfl
theorem link55 : compF Try.prog tau sig (find [(0, [0]), (1, [2])]) (findO []) Try.f77 true true = some F55 := by kernel_rfl
theorem link24 : compF Try.prog tau sig (find [(0, [0]), (1, [0, 4]), (2, [2]), (3, [2])]) (findO []) Try.f78 true true = some F24 := by kernel_rfl
theorem link56 : compF Try.prog tau sig (find [(0, [0, 2, 6]), (1, [0, 2, 6, 10]), (3, [0, 2, 6, 18]), (4, [0, 2, 6]), (5, [0, 2, 6]), (6, [0, 2, 6]), (2, [0, 2, 6])]) (findO [(5, [(0, 0), (1, 0), (2, 0), (3, 0), (4, 0), (5, 0), (6, 0), (7, 0), (8, 0), (9, 0), (10, 0), (11, 0), (12, 0), (13, 0), (14, 0), (15, 0), (16, 0), (17, 0), (18, 0), (19, 0), (20, 0), (21, 0), (22, 0), (23, 0), (24, 0), (25, 0)])]) Try.f79 false false = some F56 := by kernel_rfl
theorem link58 : compF Try.prog tau sig (find [(0, [0, 1]), (1, [0, 19]), (2, [0]), (3, [4])]) (findO []) Try.f80 false false = some F58 := by kernel_rfl
theorem link59 : compF Try.prog tau sig (find [(0, [0, 2, 6]), (1, [0, 2, 6, 10]), (3, [0, 2, 6]), (2, [0, 2, 6])]) (findO [(3, [(0, 0), (1, 0), (2, 0), (3, 0), (5, 0), (6, 0), (7, 0), (8, 0), (9, 0), (10, 0), (4, 1), (11, 0), (12, 0), (13, 0), (14, 0)])]) Try.f81 false false = some F59 := by kernel_rfl
theorem link54 : compF Try.prog tau sig (find [(0, [0]), (1, [0, 5]), (2, [2]), (3, [0, 3]), (4, [0, 3, 7]), (5, [0, 3]), (6, [0, 3]), (7, [2])]) (findO []) Try.f82 true true = some F54 := by kernel_rfl
theorem link153 : compF Try.prog tau sig (find [(0, [0]), (1, [0, 5, 6, 7]), (2, [0, 5, 6, 7, 8]), (3, [0, 3, 4, 5, 6, 7]), (4, [0, 5, 6, 7, 21]), (5, [2]), (6, [0, 5, 6, 7]), (7, [2])]) (findO []) Try.f83 false false = some F153 := by kernel_rfl
theorem link154 : compF Try.prog tau sig (find [(0, [0]), (1, [0, 3]), (2, [0, 3, 7]), (4, [0, 3, 25]), (5, [2]), (3, [0, 3]), (6, [2])]) (findO [(4, [(0, 0), (1, 0), (2, 0), (3, 0), (4, 0), (5, 0), (6, 0), (7, 0), (8, 0), (9, 0), (10, 0), (11, 0), (12, 0), (13, 0), (14, 0), (15, 0)])]) Try.f84 false false = some F154 := by kernel_rfl
theorem link155 : compF Try.prog tau sig (find [(0, [1]), (1, [1, 19]), (2, [2]), (3, [1, 23]), (4, [2]), (5, [1, 25, 26, 27]), (6, [1, 25, 26, 27, 28]), (7, [1, 3, 4, 25, 26, 27]), (8, [1, 3, 4, 5, 25, 26, 27]), (9, [1, 3, 4, 5, 25, 26, 27, 39]), (10, [2]), (11, [1, 25, 26, 27, 53]), (12, [2]), (13, [1, 25, 26, 27]), (14, [2])]) (findO [(11, [(0, 0), (1, 0), (2, 0), (3, 0), (4, 0), (5, 0), (6, 0), (7, 0), (8, 0), (9, 0), (10, 0), (11, 0), (12, 0)])]) Try.f85 false false = some F155 := by kernel_rfl
theorem link156 : compF Try.prog tau sig (find [(0, [0, 1]), (1, [0, 1, 5]), (2, [0, 5, 9, 10, 11]), (3, [0, 5, 9, 10, 11, 12]), (4, [0, 5, 7, 9, 10, 11]), (5, [0, 5, 7, 9, 10, 11, 23]), (6, [0, 5, 9, 10, 11, 27]), (7, [3, 4]), (8, [0, 5, 9, 10, 11]), (9, [0, 5, 9, 10, 11]), (10, [3, 4])]) (findO []) Try.f86 false false = some F156 := by kernel_rfl
theorem link157 : compF Try.prog tau sig (find [(0, [2, 3]), (1, [4])]) (findO []) Try.f87 true true = some F157 := by kernel_rfl
theorem link158 : compF Try.prog tau sig (find [(0, [0, 1, 2]), (1, [0, 1, 2, 8]), (2, [0, 1, 2, 8, 9, 10]), (3, [0, 1, 2, 8, 9, 10, 17]), (4, [0, 1, 2, 8, 9, 10, 11]), (5, [0, 1, 2, 8, 9, 10, 11, 31]), (6, [0, 1, 2, 8, 9, 10]), (7, [0, 1, 2, 8, 9, 10]), (8, [6, 7])]) (findO []) Try.f88 false false = some F158 := by kernel_rfl
theorem link159 : compF Try.prog tau sig (find [(0, [1, 2]), (1, [4])]) (findO []) Try.f89 true true = some F159 := by kernel_rfl
theorem link160 : compF Try.prog tau sig (find [(0, [0, 1]), (1, [0, 1, 5]), (2, [0, 1, 5, 6]), (3, [0, 1, 6, 11]), (4, [12]), (5, [4]), (6, [4]), (7, [0, 1, 13]), (8, [4]), (9, [0, 1, 16]), (10, [4]), (11, [19]), (12, [4]), (13, [4])]) (findO []) Try.f90 true true = some F160 := by kernel_rfl
theorem link51 : compF Try.prog tau sig (find [(0, [0, 1, 2]), (2, [0, 1, 2, 10]), (3, [0, 2, 16]), (4, []), (5, [0, 2, 21]), (6, []), (1, [6]), (7, [6])]) (findO []) Try.f91 false false = some F51 := by kernel_rfl
theorem link57 : compF Try.prog tau sig (find [(0, [0, 1, 8]), (1, [])]) (findO []) Try.f92 false false = some F57 := by kernel_rfl
theorem link33 : compF Try.prog tau sig (find [(0, [0]), (1, [0, 7]), (2, [2]), (3, [2])]) (findO [(3, [(0, 0), (1, 0), (2, 0), (3, 0), (4, 0), (5, 0), (6, 0), (7, 0), (8, 0), (9, 0), (10, 0), (11, 0)])]) Try.f93 false false = some F33 := by kernel_rfl
theorem link48 : compF Try.prog tau sig (find [(0, [0, 1]), (1, [0, 1, 5]), (2, [0, 5, 6, 7]), (3, [0, 5, 6, 7, 8]), (4, [0, 5, 6, 7]), (5, [0, 5, 6, 7]), (6, [0, 5, 6, 7]), (7, [4])]) (findO [(4, [(0, 0), (1, 0), (2, 0), (3, 0), (4, 0), (5, 0), (6, 0), (7, 0), (8, 0), (9, 0), (10, 0), (11, 0), (12, 0), (13, 0), (14, 0), (15, 0), (16, 0), (17, 0), (18, 0), (19, 0), (20, 0), (21, 0), (22, 0)])]) Try.f94 false false = some F48 := by kernel_rfl
theorem link47 : compF Try.prog tau sig (find [(0, [0]), (1, [0, 2]), (2, [1])]) (findO []) Try.f95 false false = some F47 := by kernel_rfl
theorem link52 : compF Try.prog tau sig (find [(0, [0]), (1, [0]), (2, [])]) (findO []) Try.f96 false false = some F52 := by kernel_rfl
theorem link53 : compF Try.prog tau sig (find [(0, [0, 1]), (1, [0, 1, 11]), (2, [4]), (3, [0, 1, 15]), (4, []), (5, [4]), (6, [0, 1, 5]), (7, [0, 1, 5, 6]), (8, [0, 1, 5, 6, 20]), (10, [0, 1, 5, 6]), (11, [0, 1, 5, 6]), (9, [0, 1, 5, 6]), (12, [4])]) (findO [(10, [(0, 0), (1, 0), (2, 0), (3, 0), (4, 0), (5, 0), (6, 0), (7, 0), (8, 0), (9, 0), (10, 0), (11, 0), (12, 0), (13, 0), (14, 0), (15, 0), (16, 0), (17, 0), (18, 0), (19, 0), (20, 0), (21, 0), (22, 0)])]) Try.f97 false false = some F53 := by kernel_rfl
theorem link34 : compF Try.prog tau sig (find [(0, [0]), (1, [2])]) (findO [(1, [(0, 0), (1, 0), (2, 0), (3, 0), (4, 0), (5, 0), (6, 0), (7, 0), (8, 0), (9, 0), (10, 0), (11, 0)])]) Try.f98 false false = some F34 := by kernel_rfl
theorem link161 : compF Try.prog tau sig (find [(0, [1, 2]), (1, [1, 2, 4, 5]), (2, [1, 2, 4, 5, 8]), (3, [1, 2, 4, 5, 8, 9]), (4, [2, 4, 5]), (5, [2, 4, 5]), (6, [1, 2, 4, 5, 8, 26]), (7, [2, 4, 5]), (8, [2, 4, 5]), (9, [1, 2, 4, 5, 8, 36]), (10, [2, 4, 5]), (11, [2, 4, 5]), (12, [1, 2, 4, 5, 60]), (13, [2, 4, 5]), (14, [2, 4, 5]), (15, [2, 3])]) (findO []) Try.f99 true true = some F161 := by kernel_rfl
theorem link162 : compF Try.prog tau sig (find [(0, [0, 1]), (1, [4])]) (findO []) Try.f100 true true = some F162 := by kernel_rfl
theorem link163 : compF Try.prog tau sig (find [(0, [0, 1]), (1, [4])]) (findO []) Try.f101 true true = some F163 := by kernel_rfl
theorem link60 : compF Try.prog tau sig (find [(0, [0, 2]), (1, [0, 2, 4]), (2, [0]), (3, [0, 2]), (4, [0, 2, 8]), (5, [0, 2]), (6, [0, 2]), (7, [2])]) (findO []) Try.f102 true true = some F60 := by kernel_rfl
theorem link61 : compF Try.prog tau sig (find [(0, [0, 2]), (1, [0, 2, 4]), (2, [0]), (3, [0, 2]), (4, [0, 2, 8]), (5, [0, 2]), (6, [0, 2]), (7, [0, 2, 14]), (8, [0, 2]), (9, [0, 2]), (10, [2])]) (findO []) Try.f103 true true = some F61 := by kernel_rfl
theorem link164 : compF Try.prog tau sig (find [(0, [0]), (1, [2])]) (findO []) Try.f104 true true = some F164 := by kernel_rfl
theorem link165 : compF Try.prog tau sig (find [(0, [0, 1]), (1, [4])]) (findO []) Try.f105 false false = some F165 := by kernel_rfl
theorem link166 : compF Try.prog tau sig (find [(0, [0]), (1, [2])]) (findO []) Try.f106 true true = some F166 := by kernel_rfl
theorem link167 : compF Try.prog tau sig (find [(0, [0, 1]), (1, [0, 1, 5]), (2, [0, 1, 5, 9]), (4, [0, 1, 5, 17]), (5, [4]), (3, [0, 1, 5]), (6, [4])]) (findO []) Try.f107 false false = some F167 := by kernel_rfl
theorem link168 : compF Try.prog tau sig (find [(0, [0]), (1, [2])]) (findO []) Try.f108 true true = some F168 := by kernel_rfl
theorem link169 : compF Try.prog tau sig (find [(0, [1, 2, 3]), (1, [1, 2, 3, 7]), (2, [1, 2, 3, 7, 8]), (3, [1, 2, 3, 7, 8, 15]), (4, [6]), (5, [1, 2, 3, 7, 8, 27]), (6, [1, 2, 3, 7, 8, 27]), (7, [6]), (8, [1, 3, 7, 8, 45]), (9, [1, 3, 7, 8, 45]), (10, [3, 8, 45]), (11, [45]), (12, [6]), (13, [6])]) (findO []) Try.f109 true true = some F169 := by kernel_rfl
theorem link170 : compF Try.prog tau sig (find [(0, [2, 3]), (1, [4])]) (findO [(1, [(0, 0), (1, 0), (2, 0), (3, 0), (4, 0), (5, 0), (6, 1), (7, 0), (8, 1), (9, 0), (10, 0), (11, 0), (12, 0)])]) Try.f110 true true = some F170 := by kernel_rfl
theorem link171 : compF Try.prog tau sig (find [(0, [0]), (1, [2])]) (findO []) Try.f111 true true = some F171 := by kernel_rfl
theorem link172 : compF Try.prog tau sig (find [(0, [1]), (1, [2])]) (findO []) Try.f112 true true = some F172 := by kernel_rfl
theorem link173 : compF Try.prog tau sig (find [(0, [0]), (1, [2])]) (findO []) Try.f113 true true = some F173 := by kernel_rfl
theorem link174 : compF Try.prog tau sig (find [(0, [0, 1]), (1, [0, 1, 7, 8]), (2, [0, 1, 7, 8, 9]), (3, [0, 1, 5, 7, 8]), (4, [0, 1, 5, 7, 8, 16]), (5, [4]), (6, [0, 1, 7, 8]), (7, [4])]) (findO []) Try.f114 false false = some F174 := by kernel_rfl
theorem link175 : compF Try.prog tau sig (find [(0, [0]), (1, [0, 3]), (2, [3, 6, 7, 8]), (3, [3, 6, 7, 8, 9]), (4, [3, 5, 6, 7, 8]), (5, [3, 5, 6, 7, 8, 14]), (6, [2]), (7, [3, 6, 7, 8]), (8, [2])]) (findO []) Try.f115 false false = some F175 := by kernel_rfl

theorem at101 : Try.prog.funcs[sig 101]? = some Try.f3 := by kernel_rfl
theorem at102 : Try.prog.funcs[sig 102]? = some Try.f4 := by kernel_rfl
theorem at103 : Try.prog.funcs[sig 103]? = some Try.f5 := by kernel_rfl
theorem at104 : Try.prog.funcs[sig 104]? = some Try.f6 := by kernel_rfl
theorem at105 : Try.prog.funcs[sig 105]? = some Try.f7 := by kernel_rfl
theorem at106 : Try.prog.funcs[sig 106]? = some Try.f8 := by kernel_rfl
theorem at107 : Try.prog.funcs[sig 107]? = some Try.f9 := by kernel_rfl
theorem at108 : Try.prog.funcs[sig 108]? = some Try.f10 := by kernel_rfl
theorem at109 : Try.prog.funcs[sig 109]? = some Try.f11 := by kernel_rfl
theorem at110 : Try.prog.funcs[sig 110]? = some Try.f12 := by kernel_rfl
theorem at111 : Try.prog.funcs[sig 111]? = some Try.f13 := by kernel_rfl
theorem at112 : Try.prog.funcs[sig 112]? = some Try.f14 := by kernel_rfl
theorem at113 : Try.prog.funcs[sig 113]? = some Try.f15 := by kernel_rfl
theorem at114 : Try.prog.funcs[sig 114]? = some Try.f16 := by kernel_rfl
theorem at115 : Try.prog.funcs[sig 115]? = some Try.f17 := by kernel_rfl
theorem at116 : Try.prog.funcs[sig 116]? = some Try.f18 := by kernel_rfl
theorem at117 : Try.prog.funcs[sig 117]? = some Try.f19 := by kernel_rfl
theorem at118 : Try.prog.funcs[sig 118]? = some Try.f20 := by kernel_rfl
theorem at119 : Try.prog.funcs[sig 119]? = some Try.f21 := by kernel_rfl
theorem at120 : Try.prog.funcs[sig 120]? = some Try.f22 := by kernel_rfl
theorem at121 : Try.prog.funcs[sig 121]? = some Try.f23 := by kernel_rfl
theorem at122 : Try.prog.funcs[sig 122]? = some Try.f24 := by kernel_rfl
theorem at123 : Try.prog.funcs[sig 123]? = some Try.f25 := by kernel_rfl
theorem at124 : Try.prog.funcs[sig 124]? = some Try.f26 := by kernel_rfl
theorem at125 : Try.prog.funcs[sig 125]? = some Try.f27 := by kernel_rfl
theorem at126 : Try.prog.funcs[sig 126]? = some Try.f28 := by kernel_rfl
theorem at127 : Try.prog.funcs[sig 127]? = some Try.f29 := by kernel_rfl
theorem at128 : Try.prog.funcs[sig 128]? = some Try.f30 := by kernel_rfl
theorem at129 : Try.prog.funcs[sig 129]? = some Try.f31 := by kernel_rfl
theorem at130 : Try.prog.funcs[sig 130]? = some Try.f32 := by kernel_rfl
theorem at131 : Try.prog.funcs[sig 131]? = some Try.f33 := by kernel_rfl
theorem at132 : Try.prog.funcs[sig 132]? = some Try.f34 := by kernel_rfl
theorem at133 : Try.prog.funcs[sig 133]? = some Try.f35 := by kernel_rfl
theorem at13 : Try.prog.funcs[sig 13]? = some Try.f36 := by kernel_rfl
theorem at25 : Try.prog.funcs[sig 25]? = some Try.f37 := by kernel_rfl
theorem at39 : Try.prog.funcs[sig 39]? = some Try.f38 := by kernel_rfl
theorem at38 : Try.prog.funcs[sig 38]? = some Try.f39 := by kernel_rfl
theorem at134 : Try.prog.funcs[sig 134]? = some Try.f40 := by kernel_rfl
theorem at17 : Try.prog.funcs[sig 17]? = some Try.f41 := by kernel_rfl
theorem at14 : Try.prog.funcs[sig 14]? = some Try.f42 := by kernel_rfl
theorem at43 : Try.prog.funcs[sig 43]? = some Try.f43 := by kernel_rfl
theorem at45 : Try.prog.funcs[sig 45]? = some Try.f44 := by kernel_rfl
theorem at46 : Try.prog.funcs[sig 46]? = some Try.f45 := by kernel_rfl
theorem at135 : Try.prog.funcs[sig 135]? = some Try.f46 := by kernel_rfl
theorem at18 : Try.prog.funcs[sig 18]? = some Try.f47 := by kernel_rfl
theorem at136 : Try.prog.funcs[sig 136]? = some Try.f48 := by kernel_rfl
theorem at137 : Try.prog.funcs[sig 137]? = some Try.f49 := by kernel_rfl
theorem at138 : Try.prog.funcs[sig 138]? = some Try.f50 := by kernel_rfl
theorem at139 : Try.prog.funcs[sig 139]? = some Try.f51 := by kernel_rfl
theorem at140 : Try.prog.funcs[sig 140]? = some Try.f52 := by kernel_rfl
theorem at141 : Try.prog.funcs[sig 141]? = some Try.f53 := by kernel_rfl
theorem at142 : Try.prog.funcs[sig 142]? = some Try.f54 := by kernel_rfl
theorem at143 : Try.prog.funcs[sig 143]? = some Try.f55 := by kernel_rfl
theorem at144 : Try.prog.funcs[sig 144]? = some Try.f56 := by kernel_rfl
theorem at145 : Try.prog.funcs[sig 145]? = some Try.f57 := by kernel_rfl
theorem at146 : Try.prog.funcs[sig 146]? = some Try.f58 := by kernel_rfl
theorem at21 : Try.prog.funcs[sig 21]? = some Try.f59 := by kernel_rfl
theorem at40 : Try.prog.funcs[sig 40]? = some Try.f60 := by kernel_rfl
theorem at41 : Try.prog.funcs[sig 41]? = some Try.f61 := by kernel_rfl
theorem at42 : Try.prog.funcs[sig 42]? = some Try.f62 := by kernel_rfl
theorem at147 : Try.prog.funcs[sig 147]? = some Try.f63 := by kernel_rfl
theorem at23 : Try.prog.funcs[sig 23]? = some Try.f64 := by kernel_rfl
theorem at28 : Try.prog.funcs[sig 28]? = some Try.f65 := by kernel_rfl
theorem at29 : Try.prog.funcs[sig 29]? = some Try.f66 := by kernel_rfl
theorem at31 : Try.prog.funcs[sig 31]? = some Try.f67 := by kernel_rfl
theorem at32 : Try.prog.funcs[sig 32]? = some Try.f68 := by kernel_rfl
theorem at37 : Try.prog.funcs[sig 37]? = some Try.f69 := by kernel_rfl
theorem at148 : Try.prog.funcs[sig 148]? = some Try.f70 := by kernel_rfl
theorem at149 : Try.prog.funcs[sig 149]? = some Try.f71 := by kernel_rfl
theorem at150 : Try.prog.funcs[sig 150]? = some Try.f72 := by kernel_rfl
theorem at151 : Try.prog.funcs[sig 151]? = some Try.f73 := by kernel_rfl
theorem at152 : Try.prog.funcs[sig 152]? = some Try.f74 := by kernel_rfl
theorem at50 : Try.prog.funcs[sig 50]? = some Try.f75 := by kernel_rfl
theorem at49 : Try.prog.funcs[sig 49]? = some Try.f76 := by kernel_rfl
theorem at55 : Try.prog.funcs[sig 55]? = some Try.f77 := by kernel_rfl
theorem at24 : Try.prog.funcs[sig 24]? = some Try.f78 := by kernel_rfl
theorem at56 : Try.prog.funcs[sig 56]? = some Try.f79 := by kernel_rfl
theorem at58 : Try.prog.funcs[sig 58]? = some Try.f80 := by kernel_rfl
theorem at59 : Try.prog.funcs[sig 59]? = some Try.f81 := by kernel_rfl
theorem at54 : Try.prog.funcs[sig 54]? = some Try.f82 := by kernel_rfl
theorem at153 : Try.prog.funcs[sig 153]? = some Try.f83 := by kernel_rfl
theorem at154 : Try.prog.funcs[sig 154]? = some Try.f84 := by kernel_rfl
theorem at155 : Try.prog.funcs[sig 155]? = some Try.f85 := by kernel_rfl
theorem at156 : Try.prog.funcs[sig 156]? = some Try.f86 := by kernel_rfl
theorem at157 : Try.prog.funcs[sig 157]? = some Try.f87 := by kernel_rfl
theorem at158 : Try.prog.funcs[sig 158]? = some Try.f88 := by kernel_rfl
theorem at159 : Try.prog.funcs[sig 159]? = some Try.f89 := by kernel_rfl
theorem at160 : Try.prog.funcs[sig 160]? = some Try.f90 := by kernel_rfl
theorem at51 : Try.prog.funcs[sig 51]? = some Try.f91 := by kernel_rfl
theorem at57 : Try.prog.funcs[sig 57]? = some Try.f92 := by kernel_rfl
theorem at33 : Try.prog.funcs[sig 33]? = some Try.f93 := by kernel_rfl
theorem at48 : Try.prog.funcs[sig 48]? = some Try.f94 := by kernel_rfl
theorem at47 : Try.prog.funcs[sig 47]? = some Try.f95 := by kernel_rfl
theorem at52 : Try.prog.funcs[sig 52]? = some Try.f96 := by kernel_rfl
theorem at53 : Try.prog.funcs[sig 53]? = some Try.f97 := by kernel_rfl
theorem at34 : Try.prog.funcs[sig 34]? = some Try.f98 := by kernel_rfl
theorem at161 : Try.prog.funcs[sig 161]? = some Try.f99 := by kernel_rfl
theorem at162 : Try.prog.funcs[sig 162]? = some Try.f100 := by kernel_rfl
theorem at163 : Try.prog.funcs[sig 163]? = some Try.f101 := by kernel_rfl
theorem at60 : Try.prog.funcs[sig 60]? = some Try.f102 := by kernel_rfl
theorem at61 : Try.prog.funcs[sig 61]? = some Try.f103 := by kernel_rfl
theorem at164 : Try.prog.funcs[sig 164]? = some Try.f104 := by kernel_rfl
theorem at165 : Try.prog.funcs[sig 165]? = some Try.f105 := by kernel_rfl
theorem at166 : Try.prog.funcs[sig 166]? = some Try.f106 := by kernel_rfl
theorem at167 : Try.prog.funcs[sig 167]? = some Try.f107 := by kernel_rfl
theorem at168 : Try.prog.funcs[sig 168]? = some Try.f108 := by kernel_rfl
theorem at169 : Try.prog.funcs[sig 169]? = some Try.f109 := by kernel_rfl
theorem at170 : Try.prog.funcs[sig 170]? = some Try.f110 := by kernel_rfl
theorem at171 : Try.prog.funcs[sig 171]? = some Try.f111 := by kernel_rfl
theorem at172 : Try.prog.funcs[sig 172]? = some Try.f112 := by kernel_rfl
theorem at173 : Try.prog.funcs[sig 173]? = some Try.f113 := by kernel_rfl
theorem at174 : Try.prog.funcs[sig 174]? = some Try.f114 := by kernel_rfl
theorem at175 : Try.prog.funcs[sig 175]? = some Try.f115 := by kernel_rfl

theorem linked : Linked Try.prog sig tbl := by
  intro i F h
  simp only [tbl, tblL, look] at h
  by_cases h101 : 101 = i
  · rw [if_pos h101] at h; injection h with h; subst h101; subst h; exact ⟨_, _, _, _, at101, link101⟩
  rw [if_neg h101] at h
  by_cases h102 : 102 = i
  · rw [if_pos h102] at h; injection h with h; subst h102; subst h; exact ⟨_, _, _, _, at102, link102⟩
  rw [if_neg h102] at h
  by_cases h103 : 103 = i
  · rw [if_pos h103] at h; injection h with h; subst h103; subst h; exact ⟨_, _, _, _, at103, link103⟩
  rw [if_neg h103] at h
  by_cases h104 : 104 = i
  · rw [if_pos h104] at h; injection h with h; subst h104; subst h; exact ⟨_, _, _, _, at104, link104⟩
  rw [if_neg h104] at h
  by_cases h105 : 105 = i
  · rw [if_pos h105] at h; injection h with h; subst h105; subst h; exact ⟨_, _, _, _, at105, link105⟩
  rw [if_neg h105] at h
  by_cases h106 : 106 = i
  · rw [if_pos h106] at h; injection h with h; subst h106; subst h; exact ⟨_, _, _, _, at106, link106⟩
  rw [if_neg h106] at h
  by_cases h107 : 107 = i
  · rw [if_pos h107] at h; injection h with h; subst h107; subst h; exact ⟨_, _, _, _, at107, link107⟩
  rw [if_neg h107] at h
  by_cases h108 : 108 = i
  · rw [if_pos h108] at h; injection h with h; subst h108; subst h; exact ⟨_, _, _, _, at108, link108⟩
  rw [if_neg h108] at h
  by_cases h109 : 109 = i
  · rw [if_pos h109] at h; injection h with h; subst h109; subst h; exact ⟨_, _, _, _, at109, link109⟩
  rw [if_neg h109] at h
  by_cases h110 : 110 = i
  · rw [if_pos h110] at h; injection h with h; subst h110; subst h; exact ⟨_, _, _, _, at110, link110⟩
  rw [if_neg h110] at h
  by_cases h111 : 111 = i
  · rw [if_pos h111] at h; injection h with h; subst h111; subst h; exact ⟨_, _, _, _, at111, link111⟩
  rw [if_neg h111] at h
  by_cases h112 : 112 = i
  · rw [if_pos h112] at h; injection h with h; subst h112; subst h; exact ⟨_, _, _, _, at112, link112⟩
  rw [if_neg h112] at h
  by_cases h113 : 113 = i
  · rw [if_pos h113] at h; injection h with h; subst h113; subst h; exact ⟨_, _, _, _, at113, link113⟩
  rw [if_neg h113] at h
  by_cases h114 : 114 = i
  · rw [if_pos h114] at h; injection h with h; subst h114; subst h; exact ⟨_, _, _, _, at114, link114⟩
  rw [if_neg h114] at h
  by_cases h115 : 115 = i
  · rw [if_pos h115] at h; injection h with h; subst h115; subst h; exact ⟨_, _, _, _, at115, link115⟩
  rw [if_neg h115] at h
  by_cases h116 : 116 = i
  · rw [if_pos h116] at h; injection h with h; subst h116; subst h; exact ⟨_, _, _, _, at116, link116⟩
  rw [if_neg h116] at h
  by_cases h117 : 117 = i
  · rw [if_pos h117] at h; injection h with h; subst h117; subst h; exact ⟨_, _, _, _, at117, link117⟩
  rw [if_neg h117] at h
  by_cases h118 : 118 = i
  · rw [if_pos h118] at h; injection h with h; subst h118; subst h; exact ⟨_, _, _, _, at118, link118⟩
  rw [if_neg h118] at h
  by_cases h119 : 119 = i
  · rw [if_pos h119] at h; injection h with h; subst h119; subst h; exact ⟨_, _, _, _, at119, link119⟩
  rw [if_neg h119] at h
  by_cases h120 : 120 = i
  · rw [if_pos h120] at h; injection h with h; subst h120; subst h; exact ⟨_, _, _, _, at120, link120⟩
  rw [if_neg h120] at h
  by_cases h121 : 121 = i
  · rw [if_pos h121] at h; injection h with h; subst h121; subst h; exact ⟨_, _, _, _, at121, link121⟩
  rw [if_neg h121] at h
  by_cases h122 : 122 = i
  · rw [if_pos h122] at h; injection h with h; subst h122; subst h; exact ⟨_, _, _, _, at122, link122⟩
  rw [if_neg h122] at h
  by_cases h123 : 123 = i
  · rw [if_pos h123] at h; injection h with h; subst h123; subst h; exact ⟨_, _, _, _, at123, link123⟩
  rw [if_neg h123] at h
  by_cases h124 : 124 = i
  · rw [if_pos h124] at h; injection h with h; subst h124; subst h; exact ⟨_, _, _, _, at124, link124⟩
  rw [if_neg h124] at h
  by_cases h125 : 125 = i
  · rw [if_pos h125] at h; injection h with h; subst h125; subst h; exact ⟨_, _, _, _, at125, link125⟩
  rw [if_neg h125] at h
  by_cases h126 : 126 = i
  · rw [if_pos h126] at h; injection h with h; subst h126; subst h; exact ⟨_, _, _, _, at126, link126⟩
  rw [if_neg h126] at h
  by_cases h127 : 127 = i
  · rw [if_pos h127] at h; injection h with h; subst h127; subst h; exact ⟨_, _, _, _, at127, link127⟩
  rw [if_neg h127] at h
  by_cases h128 : 128 = i
  · rw [if_pos h128] at h; injection h with h; subst h128; subst h; exact ⟨_, _, _, _, at128, link128⟩
  rw [if_neg h128] at h
  by_cases h129 : 129 = i
  · rw [if_pos h129] at h; injection h with h; subst h129; subst h; exact ⟨_, _, _, _, at129, link129⟩
  rw [if_neg h129] at h
  by_cases h130 : 130 = i
  · rw [if_pos h130] at h; injection h with h; subst h130; subst h; exact ⟨_, _, _, _, at130, link130⟩
  rw [if_neg h130] at h
  by_cases h131 : 131 = i
  · rw [if_pos h131] at h; injection h with h; subst h131; subst h; exact ⟨_, _, _, _, at131, link131⟩
  rw [if_neg h131] at h
  by_cases h132 : 132 = i
  · rw [if_pos h132] at h; injection h with h; subst h132; subst h; exact ⟨_, _, _, _, at132, link132⟩
  rw [if_neg h132] at h
  by_cases h133 : 133 = i
  · rw [if_pos h133] at h; injection h with h; subst h133; subst h; exact ⟨_, _, _, _, at133, link133⟩
  rw [if_neg h133] at h
  by_cases h13 : 13 = i
  · rw [if_pos h13] at h; injection h with h; subst h13; subst h; exact ⟨_, _, _, _, at13, link13⟩
  rw [if_neg h13] at h
  by_cases h25 : 25 = i
  · rw [if_pos h25] at h; injection h with h; subst h25; subst h; exact ⟨_, _, _, _, at25, link25⟩
  rw [if_neg h25] at h
  by_cases h39 : 39 = i
  · rw [if_pos h39] at h; injection h with h; subst h39; subst h; exact ⟨_, _, _, _, at39, link39⟩
  rw [if_neg h39] at h
  by_cases h38 : 38 = i
  · rw [if_pos h38] at h; injection h with h; subst h38; subst h; exact ⟨_, _, _, _, at38, link38⟩
  rw [if_neg h38] at h
  by_cases h134 : 134 = i
  · rw [if_pos h134] at h; injection h with h; subst h134; subst h; exact ⟨_, _, _, _, at134, link134⟩
  rw [if_neg h134] at h
  by_cases h17 : 17 = i
  · rw [if_pos h17] at h; injection h with h; subst h17; subst h; exact ⟨_, _, _, _, at17, link17⟩
  rw [if_neg h17] at h
  by_cases h14 : 14 = i
  · rw [if_pos h14] at h; injection h with h; subst h14; subst h; exact ⟨_, _, _, _, at14, link14⟩
  rw [if_neg h14] at h
  by_cases h43 : 43 = i
  · rw [if_pos h43] at h; injection h with h; subst h43; subst h; exact ⟨_, _, _, _, at43, link43⟩
  rw [if_neg h43] at h
  by_cases h45 : 45 = i
  · rw [if_pos h45] at h; injection h with h; subst h45; subst h; exact ⟨_, _, _, _, at45, link45⟩
  rw [if_neg h45] at h
  by_cases h46 : 46 = i
  · rw [if_pos h46] at h; injection h with h; subst h46; subst h; exact ⟨_, _, _, _, at46, link46⟩
  rw [if_neg h46] at h
  by_cases h135 : 135 = i
  · rw [if_pos h135] at h; injection h with h; subst h135; subst h; exact ⟨_, _, _, _, at135, link135⟩
  rw [if_neg h135] at h
  by_cases h18 : 18 = i
  · rw [if_pos h18] at h; injection h with h; subst h18; subst h; exact ⟨_, _, _, _, at18, link18⟩
  rw [if_neg h18] at h
  by_cases h136 : 136 = i
  · rw [if_pos h136] at h; injection h with h; subst h136; subst h; exact ⟨_, _, _, _, at136, link136⟩
  rw [if_neg h136] at h
  by_cases h137 : 137 = i
  · rw [if_pos h137] at h; injection h with h; subst h137; subst h; exact ⟨_, _, _, _, at137, link137⟩
  rw [if_neg h137] at h
  by_cases h138 : 138 = i
  · rw [if_pos h138] at h; injection h with h; subst h138; subst h; exact ⟨_, _, _, _, at138, link138⟩
  rw [if_neg h138] at h
  by_cases h139 : 139 = i
  · rw [if_pos h139] at h; injection h with h; subst h139; subst h; exact ⟨_, _, _, _, at139, link139⟩
  rw [if_neg h139] at h
  by_cases h140 : 140 = i
  · rw [if_pos h140] at h; injection h with h; subst h140; subst h; exact ⟨_, _, _, _, at140, link140⟩
  rw [if_neg h140] at h
  by_cases h141 : 141 = i
  · rw [if_pos h141] at h; injection h with h; subst h141; subst h; exact ⟨_, _, _, _, at141, link141⟩
  rw [if_neg h141] at h
  by_cases h142 : 142 = i
  · rw [if_pos h142] at h; injection h with h; subst h142; subst h; exact ⟨_, _, _, _, at142, link142⟩
  rw [if_neg h142] at h
  by_cases h143 : 143 = i
  · rw [if_pos h143] at h; injection h with h; subst h143; subst h; exact ⟨_, _, _, _, at143, link143⟩
  rw [if_neg h143] at h
  by_cases h144 : 144 = i
  · rw [if_pos h144] at h; injection h with h; subst h144; subst h; exact ⟨_, _, _, _, at144, link144⟩
  rw [if_neg h144] at h
  by_cases h145 : 145 = i
  · rw [if_pos h145] at h; injection h with h; subst h145; subst h; exact ⟨_, _, _, _, at145, link145⟩
  rw [if_neg h145] at h
  by_cases h146 : 146 = i
  · rw [if_pos h146] at h; injection h with h; subst h146; subst h; exact ⟨_, _, _, _, at146, link146⟩
  rw [if_neg h146] at h
  by_cases h21 : 21 = i
  · rw [if_pos h21] at h; injection h with h; subst h21; subst h; exact ⟨_, _, _, _, at21, link21⟩
  rw [if_neg h21] at h
  by_cases h40 : 40 = i
  · rw [if_pos h40] at h; injection h with h; subst h40; subst h; exact ⟨_, _, _, _, at40, link40⟩
  rw [if_neg h40] at h
  by_cases h41 : 41 = i
  · rw [if_pos h41] at h; injection h with h; subst h41; subst h; exact ⟨_, _, _, _, at41, link41⟩
  rw [if_neg h41] at h
  by_cases h42 : 42 = i
  · rw [if_pos h42] at h; injection h with h; subst h42; subst h; exact ⟨_, _, _, _, at42, link42⟩
  rw [if_neg h42] at h
  by_cases h147 : 147 = i
  · rw [if_pos h147] at h; injection h with h; subst h147; subst h; exact ⟨_, _, _, _, at147, link147⟩
  rw [if_neg h147] at h
  by_cases h23 : 23 = i
  · rw [if_pos h23] at h; injection h with h; subst h23; subst h; exact ⟨_, _, _, _, at23, link23⟩
  rw [if_neg h23] at h
  by_cases h28 : 28 = i
  · rw [if_pos h28] at h; injection h with h; subst h28; subst h; exact ⟨_, _, _, _, at28, link28⟩
  rw [if_neg h28] at h
  by_cases h29 : 29 = i
  · rw [if_pos h29] at h; injection h with h; subst h29; subst h; exact ⟨_, _, _, _, at29, link29⟩
  rw [if_neg h29] at h
  by_cases h31 : 31 = i
  · rw [if_pos h31] at h; injection h with h; subst h31; subst h; exact ⟨_, _, _, _, at31, link31⟩
  rw [if_neg h31] at h
  by_cases h32 : 32 = i
  · rw [if_pos h32] at h; injection h with h; subst h32; subst h; exact ⟨_, _, _, _, at32, link32⟩
  rw [if_neg h32] at h
  by_cases h37 : 37 = i
  · rw [if_pos h37] at h; injection h with h; subst h37; subst h; exact ⟨_, _, _, _, at37, link37⟩
  rw [if_neg h37] at h
  by_cases h148 : 148 = i
  · rw [if_pos h148] at h; injection h with h; subst h148; subst h; exact ⟨_, _, _, _, at148, link148⟩
  rw [if_neg h148] at h
  by_cases h149 : 149 = i
  · rw [if_pos h149] at h; injection h with h; subst h149; subst h; exact ⟨_, _, _, _, at149, link149⟩
  rw [if_neg h149] at h
  by_cases h150 : 150 = i
  · rw [if_pos h150] at h; injection h with h; subst h150; subst h; exact ⟨_, _, _, _, at150, link150⟩
  rw [if_neg h150] at h
  by_cases h151 : 151 = i
  · rw [if_pos h151] at h; injection h with h; subst h151; subst h; exact ⟨_, _, _, _, at151, link151⟩
  rw [if_neg h151] at h
  by_cases h152 : 152 = i
  · rw [if_pos h152] at h; injection h with h; subst h152; subst h; exact ⟨_, _, _, _, at152, link152⟩
  rw [if_neg h152] at h
  by_cases h50 : 50 = i
  · rw [if_pos h50] at h; injection h with h; subst h50; subst h; exact ⟨_, _, _, _, at50, link50⟩
  rw [if_neg h50] at h
  by_cases h49 : 49 = i
  · rw [if_pos h49] at h; injection h with h; subst h49; subst h; exact ⟨_, _, _, _, at49, link49⟩
  rw [if_neg h49] at h
  by_cases h55 : 55 = i
  · rw [if_pos h55] at h; injection h with h; subst h55; subst h; exact ⟨_, _, _, _, at55, link55⟩
  rw [if_neg h55] at h
  by_cases h24 : 24 = i
  · rw [if_pos h24] at h; injection h with h; subst h24; subst h; exact ⟨_, _, _, _, at24, link24⟩
  rw [if_neg h24] at h
  by_cases h56 : 56 = i
  · rw [if_pos h56] at h; injection h with h; subst h56; subst h; exact ⟨_, _, _, _, at56, link56⟩
  rw [if_neg h56] at h
  by_cases h58 : 58 = i
  · rw [if_pos h58] at h; injection h with h; subst h58; subst h; exact ⟨_, _, _, _, at58, link58⟩
  rw [if_neg h58] at h
  by_cases h59 : 59 = i
  · rw [if_pos h59] at h; injection h with h; subst h59; subst h; exact ⟨_, _, _, _, at59, link59⟩
  rw [if_neg h59] at h
  by_cases h54 : 54 = i
  · rw [if_pos h54] at h; injection h with h; subst h54; subst h; exact ⟨_, _, _, _, at54, link54⟩
  rw [if_neg h54] at h
  by_cases h153 : 153 = i
  · rw [if_pos h153] at h; injection h with h; subst h153; subst h; exact ⟨_, _, _, _, at153, link153⟩
  rw [if_neg h153] at h
  by_cases h154 : 154 = i
  · rw [if_pos h154] at h; injection h with h; subst h154; subst h; exact ⟨_, _, _, _, at154, link154⟩
  rw [if_neg h154] at h
  by_cases h155 : 155 = i
  · rw [if_pos h155] at h; injection h with h; subst h155; subst h; exact ⟨_, _, _, _, at155, link155⟩
  rw [if_neg h155] at h
  by_cases h156 : 156 = i
  · rw [if_pos h156] at h; injection h with h; subst h156; subst h; exact ⟨_, _, _, _, at156, link156⟩
  rw [if_neg h156] at h
  by_cases h157 : 157 = i
  · rw [if_pos h157] at h; injection h with h; subst h157; subst h; exact ⟨_, _, _, _, at157, link157⟩
  rw [if_neg h157] at h
  by_cases h158 : 158 = i
  · rw [if_pos h158] at h; injection h with h; subst h158; subst h; exact ⟨_, _, _, _, at158, link158⟩
  rw [if_neg h158] at h
  by_cases h159 : 159 = i
  · rw [if_pos h159] at h; injection h with h; subst h159; subst h; exact ⟨_, _, _, _, at159, link159⟩
  rw [if_neg h159] at h
  by_cases h160 : 160 = i
  · rw [if_pos h160] at h; injection h with h; subst h160; subst h; exact ⟨_, _, _, _, at160, link160⟩
  rw [if_neg h160] at h
  by_cases h51 : 51 = i
  · rw [if_pos h51] at h; injection h with h; subst h51; subst h; exact ⟨_, _, _, _, at51, link51⟩
  rw [if_neg h51] at h
  by_cases h57 : 57 = i
  · rw [if_pos h57] at h; injection h with h; subst h57; subst h; exact ⟨_, _, _, _, at57, link57⟩
  rw [if_neg h57] at h
  by_cases h33 : 33 = i
  · rw [if_pos h33] at h; injection h with h; subst h33; subst h; exact ⟨_, _, _, _, at33, link33⟩
  rw [if_neg h33] at h
  by_cases h48 : 48 = i
  · rw [if_pos h48] at h; injection h with h; subst h48; subst h; exact ⟨_, _, _, _, at48, link48⟩
  rw [if_neg h48] at h
  by_cases h47 : 47 = i
  · rw [if_pos h47] at h; injection h with h; subst h47; subst h; exact ⟨_, _, _, _, at47, link47⟩
  rw [if_neg h47] at h
  by_cases h52 : 52 = i
  · rw [if_pos h52] at h; injection h with h; subst h52; subst h; exact ⟨_, _, _, _, at52, link52⟩
  rw [if_neg h52] at h
  by_cases h53 : 53 = i
  · rw [if_pos h53] at h; injection h with h; subst h53; subst h; exact ⟨_, _, _, _, at53, link53⟩
  rw [if_neg h53] at h
  by_cases h34 : 34 = i
  · rw [if_pos h34] at h; injection h with h; subst h34; subst h; exact ⟨_, _, _, _, at34, link34⟩
  rw [if_neg h34] at h
  by_cases h161 : 161 = i
  · rw [if_pos h161] at h; injection h with h; subst h161; subst h; exact ⟨_, _, _, _, at161, link161⟩
  rw [if_neg h161] at h
  by_cases h162 : 162 = i
  · rw [if_pos h162] at h; injection h with h; subst h162; subst h; exact ⟨_, _, _, _, at162, link162⟩
  rw [if_neg h162] at h
  by_cases h163 : 163 = i
  · rw [if_pos h163] at h; injection h with h; subst h163; subst h; exact ⟨_, _, _, _, at163, link163⟩
  rw [if_neg h163] at h
  by_cases h60 : 60 = i
  · rw [if_pos h60] at h; injection h with h; subst h60; subst h; exact ⟨_, _, _, _, at60, link60⟩
  rw [if_neg h60] at h
  by_cases h61 : 61 = i
  · rw [if_pos h61] at h; injection h with h; subst h61; subst h; exact ⟨_, _, _, _, at61, link61⟩
  rw [if_neg h61] at h
  by_cases h164 : 164 = i
  · rw [if_pos h164] at h; injection h with h; subst h164; subst h; exact ⟨_, _, _, _, at164, link164⟩
  rw [if_neg h164] at h
  by_cases h165 : 165 = i
  · rw [if_pos h165] at h; injection h with h; subst h165; subst h; exact ⟨_, _, _, _, at165, link165⟩
  rw [if_neg h165] at h
  by_cases h166 : 166 = i
  · rw [if_pos h166] at h; injection h with h; subst h166; subst h; exact ⟨_, _, _, _, at166, link166⟩
  rw [if_neg h166] at h
  by_cases h167 : 167 = i
  · rw [if_pos h167] at h; injection h with h; subst h167; subst h; exact ⟨_, _, _, _, at167, link167⟩
  rw [if_neg h167] at h
  by_cases h168 : 168 = i
  · rw [if_pos h168] at h; injection h with h; subst h168; subst h; exact ⟨_, _, _, _, at168, link168⟩
  rw [if_neg h168] at h
  by_cases h169 : 169 = i
  · rw [if_pos h169] at h; injection h with h; subst h169; subst h; exact ⟨_, _, _, _, at169, link169⟩
  rw [if_neg h169] at h
  by_cases h170 : 170 = i
  · rw [if_pos h170] at h; injection h with h; subst h170; subst h; exact ⟨_, _, _, _, at170, link170⟩
  rw [if_neg h170] at h
  by_cases h171 : 171 = i
  · rw [if_pos h171] at h; injection h with h; subst h171; subst h; exact ⟨_, _, _, _, at171, link171⟩
  rw [if_neg h171] at h
  by_cases h172 : 172 = i
  · rw [if_pos h172] at h; injection h with h; subst h172; subst h; exact ⟨_, _, _, _, at172, link172⟩
  rw [if_neg h172] at h
  by_cases h173 : 173 = i
  · rw [if_pos h173] at h; injection h with h; subst h173; subst h; exact ⟨_, _, _, _, at173, link173⟩
  rw [if_neg h173] at h
  by_cases h174 : 174 = i
  · rw [if_pos h174] at h; injection h with h; subst h174; subst h; exact ⟨_, _, _, _, at174, link174⟩
  rw [if_neg h174] at h
  by_cases h175 : 175 = i
  · rw [if_pos h175] at h; injection h with h; subst h175; subst h; exact ⟨_, _, _, _, at175, link175⟩
  rw [if_neg h175] at h
  simp at h

theorem follows : Try.prog.follows .mixedOrders = true := by kernel_rfl

end Go.Proofs.Ytejcabdejoameaa.AI

/- From the interpreter's answer to the statement's words: what is left behind a law's call. -/
set_option linter.unusedSimpArgs false
namespace Go.Proofs.Ytejcabdejoameaa.AI
open Go Go.ChangeShapes Go.WideShapes Go.ChangeAt Go.RowKit

section
variable {H : Type} {enc : TypeId × Value → H} {P : Program}

/-- Arguments of any type that can be read: where nothing old has turned they read as they did. -/
theorem stay_all (hl : laidOutB P = true) {W W' : World} (hb : Below W.heap.size W W') : ∀ {ts : List TypeId} {vs : List Value} {ds : List (DataW H)} {ps : List MemPlace},
    (∀ t ∈ ts, P.readableRec t = true ∧ t < P.types.size) → DataW.TrodAll enc P W 0 (fun _ => true) true ts vs ds ps → (∀ x ∈ ps, x.block < W.heap.size) → ∀ sp : Nat → Bool, (∀ x ∈ ps, sp x.block = true) →
    DataW.TrodAll enc P W' 0 sp true ts vs ds ps := by
  intro ts
  induction ts with
  | nil => intro vs ds ps _ h _ sp _; obtain ⟨rfl, rfl, rfl⟩ := trodAll_nil h; exact trodAll_mk0
  | cons t ts ih =>
    intro vs ds ps ht h hlt sp hsp
    obtain ⟨v, vs1, d, ds1, p, q, rfl, rfl, rfl, h1, h2⟩ := trodAll_cons h
    have h3 := ih (fun u hu => ht u (List.mem_cons_of_mem _ hu)) h2 (fun x hx => hlt x (List.mem_append_right _ hx)) sp (fun x hx => hsp x (List.mem_append_right _ hx))
    have h4 := WideElems.Trod_stays hl (ht t List.mem_cons_self).1 (ht t List.mem_cons_self).2 h1 (fun x hx => hb.same (hlt x (List.mem_append_left _ hx))) (fun x hx => hsp x (List.mem_append_left _ hx))
    exact ⟨p, q, h4, h3, rfl⟩

/-- Behind a call that has written to memory of its own alone. -/
theorem law_post {f : Func} {s : ChangeSpec} {apart fresh handsOn again : Bool} {W W' : World} {args : Array Value} {v : Value} {ds gs : List (DataW H)} {before : List MemPlace} {rs : List (DataW H)} (hl : laidOutB P = true)
    (hW : DataW.Whole enc P f.params.toList s.vars apart W args.toList ds gs before) (hv : s.vars = []) (hfn : s.fn H (ds ++ gs) = { results := rs, args := ds }) (hpar : ∀ t ∈ f.params.toList, P.readableRec t = true ∧ t < P.types.size)
    (hb : Below W.heap.size W W')
    (hres : ∀ (b : Nat) (sp : Nat → Bool) (hd : Bool), DataW.TrodAll enc P W' b sp hd f.resultTypes.toList (v.resultList f.resultTypes.size) rs [])
    (hok : ∀ (j : Nat) (t : TypeId) (r : Value), f.resultTypes[j]? = some t → (v.resultList f.resultTypes.size)[j]? = some r → Value.okWide P W' .any 0 t r) :
    s.post enc P f apart fresh handsOn again W args v W' := by
  have hlt := hW.lt
  have hW0 := hW
  obtain ⟨p, q, hA, hV, hpq, hz, hn⟩ := hW
  rw [hv] at hV
  obtain ⟨hgs, hq⟩ := trodVars_none hV
  subst hq; subst hpq
  rw [List.append_nil] at *
  have hargs : ∀ sp : Nat → Bool, (∀ x ∈ p, sp x.block = true) → DataW.TrodAll enc P W' 0 sp true f.params.toList args.toList ds p := fun sp hsp => stay_all hl hb hpar hA hlt sp hsp
  have hold : ∀ x ∈ p, (fun b => decide (b < W.heap.size)) x.block = true := fun x hx => by simpa using hlt x hx
  have hnone : ∀ sp : Nat → Bool, DataW.TrodVars enc P W' sp s.vars ([] : List (DataW H)) [] := fun sp => by rw [hv]; rfl
  refine ⟨ds, gs, p, [], p, [], hW0, ?_, ?_, ?_, World.keptBut_mono (fun x hx => ⟨hx, .inr (.inl hx)⟩) (hb.frame _), fun _ => ?_⟩
  · rw [hfn]; exact hres _ _ _
  · rw [hfn]; exact hargs _ hold
  · rw [hfn]; exact hnone _
  · refine ⟨hok, rs ++ ds, [], ([] ++ p) ++ [], ⟨[] ++ p, [], ?_, ?_, rfl, ?_, ?_⟩, ?_⟩
    · exact trodAll_append (hargs _ (fun _ _ => rfl)) (hres _ _ _)
    · exact hnone _
    · intro b off hp
      have hp' : MemPlace.cell b off ∈ p := by simpa using hp
      rw [hb.frozen (hlt _ hp')]
      exact hz b off hp'
    · intro ha
      simpa using hn ha
    · intro x hx _
      simpa using hx
end

/-- A law that answers true in the interpreter does so in the program. -/
theorem law_calls {k : Nat} {vs : List Value} {H : Heap} {B : Map} {W : World} {args : List Value} (h : Op1 (AC tbl k vs H) fun v _ => v = .bool true) (hr : HR sig W.heap.size B H W) (hro : ∀ i b, hget H i = some b → b.rw = false)
    (hv : VRs sig B vs args) : Calls Try.prog (sig k) ⟨args⟩ W fun e W' => e = .returned (.bool true) ∧ Below W.heap.size W W' := by
  obtain ⟨v, H', hac, rfl⟩ := h
  obtain ⟨_, hc⟩ := AC_sound tbl (base := W.heap.size) follows linked k vs H _ H' hac
  refine (hc B W args hr hv).mono fun e W' he => ?_
  obtain ⟨v', B', rfl, r1, r2, r3⟩ := he
  rw [r1.of_bool]
  exact ⟨rfl, r3.os, r3.tape, r3.output, r3.size, fun g hg => r3.keep g hg (by rintro ⟨i, b, p, hi, hb, _⟩; rw [hro i b hi] at hb; simp at hb)⟩

theorem own : ownKnob Try.prog.godebug = none := by kernel_rfl
theorem laidOut : laidOutB Try.prog = true := by kernel_rfl

end Go.Proofs.Ytejcabdejoameaa.AI

/- A law's arguments, whatever their types: their cells, and the abstract memory in which their slices lie. -/
set_option linter.unusedSimpArgs false
namespace Go.Proofs.Ytejcabdejoameaa.AI
open Go Go.ChangeShapes Go.WideShapes Go.ChangeAt Go.RowKit

inductive Leaf where
  | int (k : IntKind)
  | bool
  | str
  | sl (els : List Leaf)
def Leaf.atomic : Leaf → Bool
  | .sl _ => false
  | _ => true

def isA : Leaf → Value → Prop
  | .int k, v => ∃ n, v = .int k n ∧ (Lit.int k n).wf = true
  | .bool, v => ∃ b, v = .bool b
  | .str, v => ∃ s : ByteArray, v = .string s ∧ s.size ≤ maxLen
  | .sl _, _ => False
theorem isA.atom {l : Leaf} {v : Value} (h : isA l v) : AI.atom v = true := by
  cases l with
  | int k => obtain ⟨n, rfl, _⟩ := h; rfl
  | bool => obtain ⟨b, rfl⟩ := h; rfl
  | str => obtain ⟨s, rfl, _⟩ := h; rfl
  | sl els => exact h.elim
def RowOf (els : List Leaf) (row : List Value) : Prop := row.length = els.length ∧ ∀ (i : Nat) (l : Leaf) (x : Value), els[i]? = some l → row[i]? = some x → isA l x
/-- What a slice's array has, in rows. -/
structure Rows (W : World) (els : List Leaf) (a : Addr) (len : Nat) (rows : List (List Value)) : Prop where
  len : rows.length = len
  row : ∀ r ∈ rows, RowOf els r
  cell : ∀ (j : Nat) (x : Value), rows.flatten[j]? = some x → W.cell? (a.add j) = some x
def isL (W : World) : Leaf → Value → Prop
  | .sl els, v => v = .slice none 0 0 ∨ ∃ a len cap rows, v = .slice (some a) len cap ∧ len ≤ cap ∧ AI.Rows W els a len rows
  | l, v => isA l v
theorem isL.of {W : World} {l : Leaf} {v : Value} (h : isL W l v) (ha : l.atomic = true) : isA l v := by
  cases l <;> first | exact h | simp [Leaf.atomic] at ha

section
variable (P : Program)
def fieldsL (f : TypeId → Option (List Leaf)) : Nat → List Field → Option (List Leaf)
  | _, [] => some []
  | off, fd :: r => (f fd.type).bind fun a => if fd.offset = off ∧ a.length = P.cellsOf fd.type then (fieldsL f (off + a.length) r).map (a ++ ·) else none
/-- The cells of a type. -/
def leaves : Nat → TypeId → Option (List Leaf)
  | 0, _ => none
  | d + 1, t => match P.underlying t with
    | some .bool => some [.bool]
    | some (.int k) => some [.int k]
    | some .string => some [.str]
    | some (.struct fs) => (fieldsL P (leaves d) 0 fs.toList).bind fun ls => if ls.length = P.cellsOf t then some ls else none
    | some (.array n e) => match leaves d e with
      | some [a] => if P.cellsOf e = 1 ∧ P.cellsOf t = n then some (List.replicate n a) else none
      | _ => none
    | some (.slice e) => (leaves d e).bind fun l => if l.all Leaf.atomic = true ∧ l.length = P.cellsOf e ∧ 0 < l.length then some [.sl l] else none
    | _ => none
end

theorem mapM_at {α β : Type} {f : α → Option β} : ∀ {l : List α} {r : List β}, l.mapM f = some r → ∀ (i : Nat) (x : α), l[i]? = some x → ∃ y, r[i]? = some y ∧ f x = some y := by
  intro l
  induction l with
  | nil => intro r _ i x h; simp at h
  | cons a l ih =>
    intro r h i x hx
    simp only [List.mapM_cons, bind, Option.bind_eq_some_iff, pure, Option.some.injEq] at h
    obtain ⟨y, hy, ys, hys, rfl⟩ := h
    cases i with
    | zero => simp at hx; subst hx; exact ⟨y, rfl, hy⟩
    | succ i => exact ih hys i x (by simpa using hx)
theorem mapM_len {α β : Type} {f : α → Option β} : ∀ {l : List α} {r : List β}, l.mapM f = some r → r.length = l.length := by
  intro l
  induction l with
  | nil => intro r h; simp at h; subst h; rfl
  | cons a l ih =>
    intro r h
    simp only [List.mapM_cons, bind, Option.bind_eq_some_iff, pure, Option.some.injEq] at h
    obtain ⟨y, hy, ys, hys, rfl⟩ := h
    simp [ih hys]

theorem add_add (a : Addr) (i j : Nat) : (a.add i).add j = a.add (i + j) := by
  unfold Addr.add
  by_cases hi : i = 0
  · subst hi; simp
  · by_cases hj : j = 0
    · subst hj; simp [hi]
    · cases a with
      | mk b o s => simp [hi, hj]; try omega

theorem cells_at {W : World} {base : Nat} {a : Addr} {n : Nat} {cs : List Value} (h : W.cells? base a n = some cs) : cs.length = n ∧ ∀ j x, cs[j]? = some x → W.cell? (a.add j) = some x := by
  unfold World.cells? at h
  split at h
  · have hl := mapM_len h
    rw [List.length_range] at hl
    refine ⟨hl, fun j x hx => ?_⟩
    have hj : j < n := by have := (List.getElem?_eq_some_iff.1 hx).1; omega
    obtain ⟨y, hy, hf⟩ := mapM_at h j j (List.getElem?_range hj)
    rw [hx] at hy; injection hy with hy; subst hy
    exact hf
  · simp at h

theorem list_choose {α : Type} {R : Nat → α → Prop} : ∀ n, (∀ i, i < n → ∃ x, R i x) → ∃ l : List α, l.length = n ∧ ∀ i x, l[i]? = some x → R i x := by
  intro n
  induction n with
  | zero => intro _; exact ⟨[], rfl, fun i x h => by simp at h⟩
  | succ n ih =>
    intro h
    obtain ⟨l, hl, hr⟩ := ih fun i hi => h i (by omega)
    obtain ⟨x, hx⟩ := h n (by omega)
    refine ⟨l ++ [x], by simp [hl], fun i y hy => ?_⟩
    rw [List.getElem?_append] at hy
    split at hy
    · exact hr i y hy
    · have : i = n := by
        have := (List.getElem?_eq_some_iff.1 hy).1
        simp at this; omega
      subst this
      rw [hl, Nat.sub_self] at hy
      simp at hy; subst hy; exact hx
theorem flatten_at {α : Type} {m : Nat} (hm : 0 < m) : ∀ (rows : List (List α)), (∀ r ∈ rows, r.length = m) → ∀ j x, rows.flatten[j]? = some x → ∃ r, rows[j / m]? = some r ∧ r[j % m]? = some x := by
  intro rows
  induction rows with
  | nil => intro _ j x h; simp at h
  | cons r rows ih =>
    intro hr j x h
    have hrl := hr r List.mem_cons_self
    rw [List.flatten_cons, List.getElem?_append] at h
    split at h
    · rename_i hj
      rw [hrl] at hj
      exact ⟨r, by rw [Nat.div_eq_of_lt hj]; rfl, by rw [Nat.mod_eq_of_lt hj]; exact h⟩
    · rename_i hj
      rw [hrl] at hj h
      obtain ⟨q, h1, h2⟩ := ih (fun r' h' => hr r' (List.mem_cons_of_mem _ h')) (j - m) x h
      have hd : j / m = (j - m) / m + 1 := by rw [Nat.div_eq_sub_div hm (by omega)]
      have hmod : j % m = (j - m) % m := by rw [Nat.mod_eq_sub_mod (by omega)]
      exact ⟨q, by rw [hd]; simpa using h1, by rw [hmod]; exact h2⟩

section
variable {P : Program} {H : Type} {enc : TypeId × Value → H} {W : World}

theorem fields_ok {f : TypeId → Option (List Leaf)} {cs : List Value} : ∀ {fds : List Field} {off : Nat} {ls : List Leaf}, fieldsL P f off fds = some ls →
    (∀ fd ∈ fds, ∀ a, f fd.type = some a → ((cs.drop fd.offset).take (P.cellsOf fd.type)).length = a.length ∧ ∀ (i : Nat) (l : Leaf) (c : Value), a[i]? = some l → ((cs.drop fd.offset).take (P.cellsOf fd.type))[i]? = some c → isL W l c) →
    ∀ (i : Nat) (l : Leaf) (c : Value), ls[i]? = some l → cs[off + i]? = some c → isL W l c := by
  intro fds
  induction fds with
  | nil => intro off ls h _ i l c hl; simp [fieldsL] at h; subst h; simp at hl
  | cons fd r ih =>
    intro off ls h hf i l c hl hc
    simp only [fieldsL, Option.bind_eq_some_iff] at h
    obtain ⟨a, ha, h⟩ := h
    split at h
    · rename_i hcond
      obtain ⟨ho, hal⟩ := hcond
      obtain ⟨ls', hls', rfl⟩ := Option.map_eq_some_iff.1 h
      rw [List.getElem?_append] at hl
      split at hl
      · rename_i hi
        obtain ⟨_, h2⟩ := hf fd List.mem_cons_self a ha
        refine h2 i l c hl ?_
        rw [List.getElem?_take, if_pos (by omega), List.getElem?_drop, ho]
        exact hc
      · rename_i hi
        refine ih hls' (fun fd' h' => hf fd' (List.mem_cons_of_mem _ h')) (i - a.length) l c hl ?_
        rw [show off + a.length + (i - a.length) = off + i by omega]; exact hc
    · simp at h

theorem leaves_ok : ∀ (d : Nat) {t : TypeId} {ls : List Leaf}, leaves P d t = some ls → ∀ {n : Nat} {cs : List Value} {x : DataW H × List MemPlace}, DataW.trod enc P W 0 (fun _ => true) true n t cs = some x →
    cs.length = ls.length ∧ ∀ (i : Nat) (l : Leaf) (c : Value), ls[i]? = some l → cs[i]? = some c → isL W l c := by
  intro d
  induction d with
  | zero => intro t ls h; simp [leaves] at h
  | succ d ih =>
    intro t ls h n cs x hx
    have one : ∀ (l : Leaf) (v : Value), ls = [l] → cs = [v] → isL W l v → cs.length = ls.length ∧ ∀ (i : Nat) (l : Leaf) (c : Value), ls[i]? = some l → cs[i]? = some c → isL W l c := by
      rintro l v rfl rfl hv
      refine ⟨rfl, fun i l' c h1 h2 => ?_⟩
      cases i with
      | zero => simp at h1 h2; subst h1; subst h2; exact hv
      | succ i => simp at h1
    simp only [leaves] at h
    split at h
    · rename_i ht
      obtain ⟨b, hb, _⟩ := DataW.trod_bool ht hx
      exact one .bool _ (by simpa using h.symm) hb ⟨b, rfl⟩
    · rename_i k ht
      obtain ⟨m, hb, _, hw⟩ := DataW.trod_int ht hx
      exact one (.int k) _ (by simpa using h.symm) hb ⟨m, rfl, hw⟩
    · rename_i ht
      obtain ⟨s, hb, _, hw⟩ := DataW.trod_string ht hx
      exact one .str _ (by simpa using h.symm) hb ⟨s, rfl, hw⟩
    · rename_i fs ht
      obtain ⟨xs, m, rfl, _, hl, hxl, hf⟩ := DataW.trod_struct ht hx
      simp only [Option.bind_eq_some_iff] at h
      obtain ⟨ls', hls', h⟩ := h
      split at h
      · rename_i hlen
        simp at h; subst h
        refine ⟨by omega, ?_⟩
        have := fields_ok (W := W) (cs := cs) hls' fun fd hfd a ha => by
          obtain ⟨j, hj⟩ := List.getElem?_of_mem hfd
          have hj' : fs[j]? = some fd := by simpa using hj
          have h1 := hf j fd hj'
          have : ∃ y, xs[j]? = some y := ⟨_, List.getElem?_eq_getElem (by
            have := (List.getElem?_eq_some_iff.1 hj).1
            simp at this; omega)⟩
          obtain ⟨y, hy⟩ := this
          rw [hy] at h1
          exact ih ha h1
        intro i l c h1 h2
        exact this i l c h1 (by simpa using h2)
      · simp at h
    · rename_i n' e ht
      split at h
      · rename_i a ha
        split at h
        · rename_i hc
          simp at h; subst h
          obtain ⟨xs, m, rfl, _, hl, hxl, hf⟩ := DataW.trod_array ht hx
          refine ⟨by simp; omega, fun i l c h1 h2 => ?_⟩
          rw [List.getElem?_replicate] at h1
          split at h1
          · rename_i hi
            simp at h1; subst h1
            have h3 := hf i hi
            obtain ⟨y, hy⟩ : ∃ y, xs[i]? = some y := ⟨_, List.getElem?_eq_getElem (by omega)⟩
            rw [hy] at h3
            refine (ih ha h3).2 0 a c rfl ?_
            rw [List.getElem?_take, if_pos (by omega), List.getElem?_drop, hc.1, Nat.mul_one]
            simpa using h2
          · simp at h1
        · simp at h
      · simp at h
    · rename_i e ht
      simp only [Option.bind_eq_some_iff] at h
      obtain ⟨els, he, h⟩ := h
      split at h
      · rename_i hc
        simp at h; subst h
        rcases DataW.trod_slice ht hx with ⟨hcs, _⟩ | ⟨a, len, cap, elems, rest, m, rfl, hcs, _, _, hlc, _, hel, hget', _, _⟩
        · exact one _ _ rfl hcs (.inl rfl)
        · refine one _ _ rfl hcs (.inr ⟨a, len, cap, ?_⟩)
          obtain ⟨rows, hrl, hrr⟩ := list_choose (R := fun i (r : List Value) => RowOf els r ∧ ∀ j x, r[j]? = some x → W.cell? ((a.add (i * els.length)).add j) = some x) len fun i hi => by
            have h1 := hget' i hi
            obtain ⟨y, hy⟩ : ∃ y, elems[i]? = some y := ⟨_, List.getElem?_eq_getElem (by omega)⟩
            rw [hy, Option.bind_eq_some_iff] at h1
            obtain ⟨r, hr, htr⟩ := h1
            obtain ⟨q1, q2⟩ := cells_at hr
            rw [hc.2.1] at *
            obtain ⟨q3, q4⟩ := ih he htr
            exact ⟨r, ⟨by omega, fun j l x hl hx => (q4 j l x hl hx).of (List.all_eq_true.1 hc.1 l (List.mem_of_getElem? hl))⟩, q2⟩
          refine ⟨rows, rfl, hlc, hrl, fun r hr => ?_, fun j x hj => ?_⟩
          · obtain ⟨i, hi⟩ := List.getElem?_of_mem hr
            exact (hrr i r hi).1
          · have hall : ∀ r ∈ rows, r.length = els.length := fun r hr => by
              obtain ⟨i, hi⟩ := List.getElem?_of_mem hr
              exact (hrr i r hi).1.1
            obtain ⟨r, h1, h2⟩ := flatten_at hc.2.2 rows hall j x hj
            have := (hrr _ r h1).2 _ x h2
            rw [add_add] at this
            rw [show j / els.length * els.length + j % els.length = j by rw [Nat.mul_comm]; exact Nat.div_add_mod j els.length] at this
            exact this
      · simp at h
    · simp at h

/-- A struct among the arguments. -/
theorem arg_agg {t : TypeId} {fs : Array Field} {ls : List Leaf} {base : Nat} {v : Value} {dd : DataW H} {ps : List MemPlace} (ht : P.underlying t = some (.struct fs)) (hval : Value.okWide P W .any base t v)
    (h : DataW.Trod enc P W 0 (fun _ => true) true t v dd ps) {d : Nat} (hl : leaves P d t = some ls) : ∃ cs : List Value, v = .agg cs.toArray ∧ cs.length = ls.length ∧ ∀ (i : Nat) (l : Leaf) (c : Value), ls[i]? = some l → cs[i]? = some c → isL W l c := by
  unfold Value.okWide at hval
  rw [ht] at hval
  obtain ⟨cs, rfl, _, _⟩ := hval
  obtain ⟨n, hn⟩ := h
  exact ⟨cs.toList, rfl, leaves_ok d hl hn⟩
/-- A slice among the arguments. -/
theorem arg_slice {t e : TypeId} {els : List Leaf} {base : Nat} {v : Value} {dd : DataW H} {ps : List MemPlace} (ht : P.underlying t = some (.slice e)) (hval : Value.okWide P W .any base t v)
    (h : DataW.Trod enc P W 0 (fun _ => true) true t v dd ps) {d : Nat} (hl : leaves P d t = some [.sl els]) : isL W (.sl els) v := by
  obtain ⟨a0, len0, cap0, rfl⟩ := okWide_slice ht hval
  obtain ⟨n, hn⟩ := h
  exact (leaves_ok d hl hn).2 0 _ _ rfl rfl
end

/-! ## Abstract memory -/
theorem add_none' (b o n : Nat) : (⟨b, o, none⟩ : Addr).add n = ⟨b, o + n, none⟩ := by
  unfold Addr.add; split
  · rename_i h; subst h; rfl
  · rfl

/-- A slice in abstract memory: the block behind all others, or none. -/
def AbsSlice (k : Nat) (els : List Leaf) (rows : List (List Value)) (av : Value) (blk : Option Blk) : Prop :=
  (av = .slice none 0 0 ∧ rows = []) ∨ (av = .slice (some ⟨k, 0, none⟩) rows.length els.length ∧ (rows = [] ∨ blk = some ⟨false, rows.flatten⟩))

theorem hget_push {H : Heap} {b : Option Blk} : hget (H ++ [b]) H.length = b := by simp [hget]
theorem add_slice {W : World} {B : Map} {H : Heap} {els : List Leaf} {v : Value} (h : isL W (.sl els) v) (he : 0 < els.length) (hr : HR sig W.heap.size B H W) (hro : ∀ i b, hget H i = some b → b.rw = false) :
    ∃ av B' blk rows, VR sig B' av v ∧ Ext B B' ∧ HR sig W.heap.size B' (H ++ [blk]) W ∧ (∀ i b, hget (H ++ [blk]) i = some b → b.rw = false) ∧ AbsSlice H.length els rows av blk ∧ ∀ r ∈ rows, RowOf els r := by
  have grow : ∀ (blk : Option Blk) (p : Bnd), p.size = none → (∀ b, blk = some b → b.rw = false ∧ p.blk < W.heap.size ∧ ∀ j x, b.cells[j]? = some x → W.cell? ⟨p.blk, p.off + j, none⟩ = some x ∧ atom x = true) →
      let B' : Map := fun i => if i = H.length then some p else B i
      Ext B B' ∧ HR sig W.heap.size B' (H ++ [blk]) W ∧ (∀ i b, hget (H ++ [blk]) i = some b → b.rw = false) := by
    intro blk p hp hb
    have hext : Ext B (fun i => if i = H.length then some p else B i) := fun i q hq => by
      have := hr.dom i q hq
      simp only
      rw [if_neg (by omega)]; exact hq
    have hro' : ∀ i b, hget (H ++ [blk]) i = some b → b.rw = false := fun i b hi => by
      rcases Nat.lt_or_ge i H.length with h1 | h1
      · rw [hget_append_lt h1] at hi; exact hro i b hi
      · have : i = H.length := by have := hget_lt hi; simp at this; omega
        subst this
        rw [hget_push] at hi
        exact (hb b hi).1
    refine ⟨hext, ⟨fun i b hi hw => ?_, fun i b hi hw => ?_, fun i j b c q r hi hj hw => ?_, fun i q hq => ?_, hr.big⟩, hro'⟩
    · rw [hro' i b hi] at hw; simp at hw
    · rcases Nat.lt_or_ge i H.length with h1 | h1
      · rw [hget_append_lt h1] at hi
        obtain ⟨g, o, e1, e2, e3⟩ := hr.ro i b hi hw
        refine ⟨g, o, hext i _ e1, e2, fun j x hx => ?_⟩
        obtain ⟨x', e4, e5⟩ := e3 j x hx
        exact ⟨x', e4, e5.mono hext⟩
      · have : i = H.length := by have := hget_lt hi; simp at this; omega
        subst this
        rw [hget_push] at hi
        obtain ⟨_, e2, e3⟩ := hb b hi
        obtain ⟨pb, po, ps⟩ := p
        simp only at hp; subst hp
        refine ⟨pb, po, by simp, e2, fun j x hx => ⟨x, (e3 j x hx).1, .atom x (e3 j x hx).2⟩⟩
    · rw [hro' i b hi] at hw; simp at hw
    · have hq : (if i = H.length then some p else B i) = some q := hq
      split at hq
      · rename_i hh; subst hh; simp
      · have := hr.dom i q hq; simp; omega
  rcases h with rfl | ⟨a, len, cap, rows, rfl, hlc, hrows⟩
  · obtain ⟨g1, g2, g3⟩ := grow none ⟨0, 0, none⟩ rfl (fun b hb => by simp at hb)
    exact ⟨.slice none 0 0, _, none, [], .atom _ rfl, g1, g2, g3, .inl ⟨rfl, rfl⟩, fun r hr => by simp at hr⟩
  · by_cases hl0 : len = 0
    · subst hl0
      have hnil : rows = [] := List.eq_nil_of_length_eq_zero hrows.len
      subst hnil
      obtain ⟨g1, g2, g3⟩ := grow none ⟨0, 0, none⟩ rfl (fun b hb => by simp at hb)
      refine ⟨.slice (some ⟨H.length, 0, none⟩) 0 els.length, _, none, [], .empty H.length 0 els.length cap ⟨0, 0, none⟩ (some a) (by simp) rfl, g1, g2, g3, .inr ⟨rfl, .inl rfl⟩, fun r hr => by simp at hr⟩
    · have hall : ∀ r ∈ rows, r.length = els.length := fun r hr => (hrows.row r hr).1
      have hfl : 0 < rows.flatten.length := by
        cases rows with
        | nil => have := hrows.len; simp at this; omega
        | cons r rows => have := hall r List.mem_cons_self; simp; omega
      obtain ⟨x0, hx0⟩ : ∃ x, rows.flatten[0]? = some x := ⟨_, List.getElem?_eq_getElem hfl⟩
      have hc0 := hrows.cell 0 x0 hx0
      obtain ⟨g, o, sp⟩ := a
      have ha0 : (⟨g, o, sp⟩ : Addr).add 0 = ⟨g, o, sp⟩ := by simp [Addr.add]
      rw [ha0] at hc0
      have hsp : sp = none := by
        unfold World.cell? at hc0
        split at hc0
        · cases sp with
          | none => rfl
          | some q => simp at hc0
        · simp at hc0
      subst hsp
      have hg : g < W.heap.size := by
        unfold World.cell? at hc0
        split at hc0
        · rename_i hh; exact (Array.getElem?_eq_some_iff.1 hh).1
        · simp at hc0
      obtain ⟨g1, g2, g3⟩ := grow (some ⟨false, rows.flatten⟩) ⟨g, o, none⟩ rfl (fun b hb => by
        injection hb with hb; subst hb
        refine ⟨rfl, hg, fun j x hx => ?_⟩
        have h1 := hrows.cell j x hx
        rw [add_none'] at h1
        refine ⟨h1, ?_⟩
        obtain ⟨r, h2, h3⟩ := flatten_at he rows hall j x hx
        have hro := hrows.row r (List.mem_of_getElem? h2)
        have hj : j % els.length < els.length := Nat.mod_lt _ he
        exact (hro.2 _ _ x (List.getElem?_eq_getElem hj) h3).atom)
      refine ⟨.slice (some ⟨H.length, 0, none⟩) rows.length els.length, _, some ⟨false, rows.flatten⟩, rows, ?_, g1, g2, g3, .inr ⟨rfl, .inr rfl⟩, hrows.row⟩
      rw [hrows.len]
      exact VR.slice H.length 0 len els.length cap ⟨g, o, none⟩ (by simp) hlc (fun s hs => by simp at hs)

/-- Rows as a list of things. -/
theorem rows_list {α : Type} {cells : α → List Value} {ok : α → Prop} : ∀ {rows : List (List Value)}, (∀ r ∈ rows, ∃ x, r = cells x ∧ ok x) → ∃ l : List α, rows = l.map cells ∧ ∀ x ∈ l, ok x := by
  intro rows
  induction rows with
  | nil => intro _; exact ⟨[], rfl, by simp⟩
  | cons r rows ih =>
    intro h
    obtain ⟨x, rfl, hx⟩ := h r List.mem_cons_self
    obtain ⟨l, rfl, hl⟩ := ih fun r' h' => h r' (List.mem_cons_of_mem _ h')
    exact ⟨x :: l, rfl, fun y hy => by rcases List.mem_cons.1 hy with rfl | hy; exact hx; exact hl y hy⟩

theorem i64_wf {n : Int} (h : (Lit.int .i64 n).wf = true) : -9223372036854775808 ≤ n ∧ n < 9223372036854775808 := by
  simp only [Lit.wf, Bool.and_eq_true, decide_eq_true_eq] at h
  simp [IntKind.min, IntKind.max, IntKind.signed, IntKind.bits] at h
  exact ⟨by omega, by omega⟩
theorem u8_wf' {n : Int} (h : (Lit.int .u8 n).wf = true) : 0 ≤ n ∧ n < 256 := by
  simp only [Lit.wf, Bool.and_eq_true, decide_eq_true_eq] at h
  simp [IntKind.min, IntKind.max, IntKind.signed, IntKind.bits] at h
  exact ⟨by omega, by omega⟩
theorem u16_wf' {n : Int} (h : (Lit.int .u16 n).wf = true) : 0 ≤ n ∧ n < 65536 := by
  simp only [Lit.wf, Bool.and_eq_true, decide_eq_true_eq] at h
  simp [IntKind.min, IntKind.max, IntKind.signed, IntKind.bits] at h
  exact ⟨by omega, by omega⟩

end Go.Proofs.Ytejcabdejoameaa.AI

/- More on arguments. -/
set_option linter.unusedSimpArgs false
namespace Go.Proofs.Ytejcabdejoameaa.AI
open Go Go.ChangeShapes Go.WideShapes Go.ChangeAt Go.RowKit

abbrev LI : Leaf := .int .i64
/-- A nil slice has nothing. -/
def NilOk (a : Option Addr) (z n : Nat) : Prop := a = none → z = 0 ∧ n = 0
theorem HR0 (W : World) : HR sig W.heap.size (fun _ => none) [] W := HR.nothing (w := W) (Nat.le_refl _)
theorem ro0 : ∀ (i : Nat) (b : Blk), hget [] i = some b → b.rw = false := fun i b hi => by simp [hget] at hi


end Go.Proofs.Ytejcabdejoameaa.AI

/- A table as an argument. -/
set_option linter.unusedSimpArgs false
namespace Go.Proofs.Ytejcabdejoameaa.AI
open Go Go.ChangeShapes Go.WideShapes Go.ChangeAt Go.RowKit

def tcLeaves : List Leaf := [LI, LI, LI, .bool, LI, LI]
def tbLeaves : List Leaf := [LI, LI, .sl [LI, LI, LI, .bool, LI, LI]]
structure Tb.I64 (t : Tb) : Prop where
  node : Is64 t.node
  len : Is64 t.len
theorem tc_open {row : List Value} (h : RowOf tcLeaves row) : ∃ x : TC, row = x.cells ∧ True := by
  obtain ⟨h1, h2⟩ := h
  match row, h1 with
  | [c0, c1, c2, c3, c4, c5], _ =>
    obtain ⟨n0, rfl, _⟩ := h2 0 LI c0 rfl rfl
    obtain ⟨n1, rfl, _⟩ := h2 1 LI c1 rfl rfl
    obtain ⟨n2, rfl, _⟩ := h2 2 LI c2 rfl rfl
    obtain ⟨b, rfl⟩ := h2 3 .bool c3 rfl rfl
    obtain ⟨n4, rfl, _⟩ := h2 4 LI c4 rfl rfl
    obtain ⟨n5, rfl, _⟩ := h2 5 LI c5 rfl rfl
    exact ⟨⟨n0, n1, n2, b, n4, n5⟩, rfl, trivial⟩
theorem tflat_length (l : List TC) : (l.map TC.cells).flatten.length = l.length * 6 := by
  induction l with
  | nil => rfl
  | cons x l ih => rw [List.map_cons, List.flatten_cons, zai, ih, zal]; simp [TC.cells]; omega
theorem tflat_drop : ∀ (l : List TC) (i : Nat), List.drop (i * 6) (l.map TC.cells).flatten = ((l.drop i).map TC.cells).flatten := by
  intro l
  induction l with
  | nil => intro i; simp
  | cons x l ih =>
    intro i
    cases i with
    | zero => simp
    | succ i =>
      rw [List.map_cons, List.flatten_cons, List.drop_succ_cons, ← ih i]
      rw [show (i + 1) * 6 = x.cells.length + i * 6 by simp [TC.cells]; omega, List.drop_append, List.drop_eq_nil_of_le (by omega), Nat.add_sub_cancel_left, List.nil_append]
theorem tc_slice {H : Heap} {rows : List (List Value)} {av : Value} {blk : Option Blk} (h : AbsSlice H.length [LI, LI, LI, .bool, LI, LI] rows av blk) (hr : ∀ r ∈ rows, RowOf [LI, LI, LI, .bool, LI, LI] r) :
    ∃ (l : List TC) (a : Option Addr) (z : Nat), av = .slice a l.length z ∧ TI (H ++ [blk]) a z l ∧ NilOk a z l.length := by
  obtain ⟨l, rfl, hl⟩ := rows_list (cells := TC.cells) (ok := fun _ => True) (fun r hm => tc_open (hr r hm))
  have nil : ∀ H a z, TI H a z [] := fun H a z i x h => by simp at h
  rcases h with ⟨rfl, h0⟩ | ⟨rfl, h0⟩
  · have : l = [] := by simpa using h0
    subst this
    exact ⟨[], none, 0, rfl, nil _ _ _, fun _ => ⟨rfl, rfl⟩⟩
  · refine ⟨l, some ⟨H.length, 0, none⟩, 6, by simp, ?_, fun h => by simp at h⟩
    rcases h0 with h0 | h0
    · have : l = [] := by simpa using h0
      subst this; exact nil _ _ _
    · subst h0
      intro i x hx
      have hi := (List.getElem?_eq_some_iff.1 hx).1
      have hd : List.drop i l = x :: List.drop (i + 1) l := by
        rw [List.drop_eq_getElem_cons hi, (List.getElem?_eq_some_iff.1 hx).2]
      have hc : List.drop (0 + i * 6) (l.map TC.cells).flatten = x.cells ++ ((l.drop (i + 1)).map TC.cells).flatten := by
        rw [zaz, tflat_drop, hd, List.map_cons, List.flatten_cons]
      refine ⟨H.length, 0, false, _, rfl, rfl, hget_push, ?_, ?_, ?_⟩
      · rw [tflat_length]; omega
      · rw [hc]; rfl
      · have := congrArg (fun m : List Value => m[0]?) hc
        simpa [TC.cells] using this
theorem tb_open {W : World} {cs : List Value} (hl : cs.length = tbLeaves.length) (h : ∀ (i : Nat) (l : Leaf) (c : Value), tbLeaves[i]? = some l → cs[i]? = some c → isL W l c) :
    ∃ (node len : Int) (c : Value), cs = [.int .i64 node, .int .i64 len, c] ∧ isL W (.sl [LI, LI, LI, .bool, LI, LI]) c ∧ Is64 node ∧ Is64 len := by
  match cs, hl with
  | [c0, c1, c2], _ =>
    obtain ⟨n0, rfl, w0⟩ := h 0 LI c0 rfl rfl
    obtain ⟨n1, rfl, w1⟩ := h 1 LI c1 rfl rfl
    exact ⟨n0, n1, c2, rfl, h 2 (.sl [LI, LI, LI, .bool, LI, LI]) c2 rfl rfl, i64_wf w0, i64_wf w1⟩
/-- A table among the arguments. -/
theorem tb_arg {W : World} {B : Map} {H : Heap} {cs : List Value} (hl : cs.length = tbLeaves.length) (h : ∀ (i : Nat) (l : Leaf) (c : Value), tbLeaves[i]? = some l → cs[i]? = some c → isL W l c)
    (hr : HR sig W.heap.size B H W) (hro : ∀ i b, hget H i = some b → b.rw = false) :
    ∃ (t : Tb) (a : Option Addr) (z : Nat) (B' : Map) (blk : Option Blk), VR sig B' (t.v a z) (.agg cs.toArray) ∧ Ext B B' ∧ HR sig W.heap.size B' (H ++ [blk]) W ∧ (∀ i b, hget (H ++ [blk]) i = some b → b.rw = false) ∧ TI (H ++ [blk]) a z t.cs ∧ t.I64 ∧ NilOk a z t.cs.length := by
  obtain ⟨node, len, c, rfl, hc, w0, w1⟩ := tb_open hl h
  obtain ⟨av, B', blk, rows, h1, h2, h3, h4, h5, h6⟩ := add_slice hc (by decide) hr hro
  obtain ⟨l, a, z, rfl, h7, h9⟩ := tc_slice h5 h6
  exact ⟨⟨node, len, l⟩, a, z, B', blk, VR.agg' (.cons (.atom _ rfl) (.cons (.atom _ rfl) (.cons h1 .nil))), h2, h3, h4, h7, ⟨w0, w1⟩, h9⟩

end Go.Proofs.Ytejcabdejoameaa.AI

/- A cell that is put among others. -/
set_option linter.unusedSimpArgs false
set_option linter.unusedVariables false
set_option maxHeartbeats 4000000
namespace Go.Proofs.Ytejcabdejoameaa.AI
open Go

abbrev tfl (l : List TC) : List Value := (l.map TC.cells).flatten
theorem tfl_one (l : List TC) : (tfl l).all one = true := by
  induction l with
  | nil => rfl
  | cons x l ih => simp only [tfl, List.map_cons, List.flatten_cons, List.all_append] at ih ⊢; rw [ih]; rfl
theorem tfl_append (l m : List TC) : tfl l ++ tfl m = tfl (l ++ m) := by simp [tfl]
theorem tfl_snoc (l : List TC) (x : TC) : tfl l ++ [.int .i64 x.s, .int .i64 x.c, .int .i64 x.w, .bool x.b, .int .i64 x.p, .int .i64 x.n] = tfl (l ++ [x]) := by rw [← tfl_append]; simp [tfl, TC.cells]
/-- The cells from a place on. -/
theorem TI.rest {H : Heap} {a : Option Addr} {z : Nat} {l : List TC} (h : TI H a z l) : ∀ (k i : Nat), i + (k + 1) = l.length → ∃ b o w cs, a = some ⟨b, o, none⟩ ∧ z = 6 ∧ hget H b = some ⟨w, cs⟩ ∧ o + i * 6 + (k + 1) * 6 ≤ cs.length ∧ List.take ((k + 1) * 6) (List.drop (o + i * 6) cs) = tfl (l.drop i) := by
  intro k
  induction k with
  | zero =>
    intro i hi
    obtain ⟨x, hx⟩ : ∃ x, l[i]? = some x := ⟨_, List.getElem?_eq_getElem (by omega)⟩
    obtain ⟨b, o, w, cs, h1, h2, h3, h4, h5, _⟩ := h i x hx
    refine ⟨b, o, w, cs, h1, h2, h3, by omega, ?_⟩
    have hd : l.drop i = [x] := by
      rw [List.drop_eq_getElem_cons (by omega), (List.getElem?_eq_some_iff.1 hx).2, List.drop_of_length_le (by omega)]
    rw [hd]
    simpa [tfl, TC.cells] using h5
  | succ k ih =>
    intro i hi
    obtain ⟨x, hx⟩ : ∃ x, l[i]? = some x := ⟨_, List.getElem?_eq_getElem (by omega)⟩
    obtain ⟨b, o, w, cs, h1, h2, h3, h4, h5, _⟩ := h i x hx
    obtain ⟨b', o', w', cs', g1, g2, g3, g4, g5⟩ := ih (i + 1) (by omega)
    rw [h1] at g1
    simp only [Option.some.injEq, Addr.mk.injEq, and_true] at g1
    obtain ⟨rfl, rfl⟩ := g1
    rw [h3] at g3
    simp only [Option.some.injEq, Blk.mk.injEq] at g3
    obtain ⟨rfl, rfl⟩ := g3
    refine ⟨b, o, w, cs, h1, h2, h3, by omega, ?_⟩
    have hd : l.drop i = x :: l.drop (i + 1) := by
      rw [List.drop_eq_getElem_cons (by omega), (List.getElem?_eq_some_iff.1 hx).2]
    rw [hd, show (k + 1 + 1) * 6 = 6 + (k + 1) * 6 by omega, List.take_add, h5, List.drop_drop, show o + i * 6 + 6 = o + (i + 1) * 6 by omega, g5]
    simp [tfl, TC.cells]

/-- A slice of cells that grows. -/
def GC (H : Heap) (s : Option Nat) (l : List TC) : Prop := (s = none → l = []) ∧ ∀ k, s = some k → hget H k = some ⟨true, tfl l⟩
def gcv (s : Option Nat) (l : List TC) : Value := match s with
  | none => .slice none 0 0
  | some k => .slice (some ⟨k, 0, none⟩) l.length 6
theorem GC.frm {H H' : Heap} {s : Option Nat} {l : List TC} (h : GC H s l) (f : Frm [] H H') : GC H' s l := ⟨h.1, fun k hk => f.gets (h.2 k hk)⟩
theorem GC.ti {H : Heap} {k : Nat} {l : List TC} (h : GC H (some k) l) : TI H (some ⟨k, 0, none⟩) 6 l := by
  intro i x hx
  have hi := (List.getElem?_eq_some_iff.1 hx).1
  have hd : List.drop i l = x :: List.drop (i + 1) l := by
    rw [List.drop_eq_getElem_cons hi, (List.getElem?_eq_some_iff.1 hx).2]
  have hc : List.drop (0 + i * 6) (l.map TC.cells).flatten = x.cells ++ ((l.drop (i + 1)).map TC.cells).flatten := by
    rw [zaz, tflat_drop, hd, List.map_cons, List.flatten_cons]
  refine ⟨k, 0, true, _, rfl, rfl, h.2 k rfl, ?_, ?_, ?_⟩
  · rw [tflat_length]; omega
  · rw [hc]; rfl
  · have := congrArg (fun m : List Value => m[0]?) hc
    simpa [TC.cells] using this
theorem hget_grow {H : Heap} {k : Nat} {x : Option Blk} : hget (H.set k none ++ [x]) H.length = x := by rw [hget_app]; simp

theorem take_next' {l : List TC} {i : Nat} {x : TC} (h : l[i]? = some x) : l.take (i + 1) = l.take i ++ [x] := by
  rw [List.take_add_one, h]; rfl
theorem f146 {H : Heap} {a : Option Addr} {z : Nat} {l : List TC} {x : TC} (h : TI H a z l) (hN : NilOk a z l.length) (hl : l.length ≤ 512) {K : Value → Heap → Prop}
    (hk : ∀ H' k i, Frm [] H H' → i ≤ l.length → (∀ (m : Nat) (y : TC), m < i → l[m]? = some y → y.Lt x) → (∀ y, l[i]? = some y → ¬ y.Lt x) → GC H' (some k) (l.take i ++ [x] ++ l.drop i) → H.length ≤ k → K (.slice (some ⟨k, 0, none⟩) (l.length + 1) 6) H') :
    Op1 (AC tbl 146 [.slice a l.length z, x.v] H) K := by
  apply AC_wp (F := F146) rfl (by simp [F146]) (.inl rfl)
  unfold TC.v
  have hg : hget (H ++ [some (⟨true, [.int .i64 x.s, .int .i64 x.c, .int .i64 x.w, .bool x.b, .int .i64 x.p, .int .i64 x.n]⟩ : Blk)]) H.length = some (⟨true, [.int .i64 x.s, .int .i64 x.c, .int .i64 x.w, .bool x.b, .int .i64 x.p, .int .i64 x.n]⟩ : Blk) := ydu
  have hG := h.push (some (⟨true, [.int .i64 x.s, .int .i64 x.c, .int .i64 x.w, .bool x.b, .int .i64 x.p, .int .i64 x.n]⟩ : Blk))
  have f0 : Frm [] H (H ++ [some (⟨true, [.int .i64 x.s, .int .i64 x.c, .int .i64 x.w, .bool x.b, .int .i64 x.p, .int .i64 x.n]⟩ : Blk)]) := (Frm.refl _ _).push _
  simp only [F146, ↓yaa, ↓yab, ↓yac, ↓yad, ↓yae, ↓yaf, ↓yag, ↓yah, ↓yai, ↓ydb, ↓ydc, ↓ydd, ↓yde, ↓ydf, ↓ydg, ↓yao, ↓yap, ↓ydh, ↓ydi, ↓ydj, ↓ydk, ↓ydl, ↓ydm, ↓ydn, ↓ydo, ↓ydp, ↓yax, yay, yaz, yba, ybb, ybc, ybd, ybe, ybf, ybg, ybh, ybi, ybj, ybk, ybl, ybm, ybn, ybo, ybp, ybq, ybr, ybs, ybt, ybu, ybv, ares, tup, ybw, ybx, yby, argsE, dval, aop, ev, evs, evo, evp, fillL, addrOf, intOf?, ybz, yca, ycb, ycc, ycd, yce, ycf, zah, zag, reduceIte, Nat.reduceEqDiff, ycg, ych, yci, ycj, yck, ycl, ycm, ycn, yco, ycp, ycq, ycr, zap, zao, reduceCtorEq, zbb, zbc, zba, zaz, Nat.reduceAdd, Nat.reduceMul, zaq, zar, eqPtr, zae, zaf, zab, zaa, zac, zad, hload, hstore, zal, zam, Nat.reduceAdd, Nat.reduceLeDiff, zbb, zas, zat, one, zau, zaw, zav, splice, zaj, zak, zab, zaa, ycs, yct, ycu, ycv, ycw, ycx, ycy, ycz, zan, zai, zax, zay, and_self, true_and, and_true, lenV, yda, Nat.le_refl, if_true, ydq, ydr, yds, ne_eq, not_true_eq_false, not_false_eq_true, ← decide_not, Decidable.not_not, ydt, ydu, ydz, ydv, ydw, List.drop_zero, eq_self, Bool.false_eq_true, List.getElem?_toArray, yea, yeb, List.nil_append, List.cons_append, Bool.false_and, Int.reduceEq, Int.reduceLT, Int.reduceLE, Int.reduceNe, zbc, zbb, yec, yed, yee, yef, ydx, ydy]
  have hGl : H.length < (H ++ [some (⟨true, [.int .i64 x.s, .int .i64 x.c, .int .i64 x.w, .bool x.b, .int .i64 x.p, .int .i64 x.n]⟩ : Blk)]).length := by simp
  generalize H ++ [some (⟨true, [.int .i64 x.s, .int .i64 x.c, .int .i64 x.w, .bool x.b, .int .i64 x.p, .int .i64 x.n]⟩ : Blk)] = G at *
  cases a with
  | none =>
    obtain ⟨rfl, h0⟩ := hN rfl
    have hnil : l = [] := List.length_eq_zero_iff.1 h0
    subst hnil
    rw [AW_loop]
    have lb := hget_lt hg
    have b0 : boundsOf 0 0 (some (.int .i64 0)) none = some (0, 0) := rfl
    have z0 : ((0 : Nat) : Int) = 0 := rfl
    have i0 : ¬ (0 : Int) < 0 := by omega
    have n0 : ([] : List TC).length = 0 := rfl
    simp only [↓yaa, ↓yab, ↓yac, ↓yad, ↓yae, ↓yaf, ↓yag, ↓yah, ↓yai, ↓ydb, ↓ydc, ↓ydd, ↓yde, ↓ydf, ↓ydg, ↓yao, ↓yap, ↓ydh, ↓ydi, ↓ydj, ↓ydk, ↓ydl, ↓ydm, ↓ydn, ↓ydo, ↓ydp, ↓yax, yay, yaz, yba, ybb, ybc, ybd, ybe, ybf, ybg, ybh, ybi, ybj, ybk, ybl, ybm, ybn, ybo, ybp, ybq, ybr, ybs, ybt, ybu, ybv, ares, tup, ybw, ybx, yby, argsE, dval, aop, ev, evs, evo, evp, fillL, addrOf, intOf?, ybz, yca, ycb, ycc, ycd, yce, ycf, zah, zag, reduceIte, Nat.reduceEqDiff, ycg, ych, yci, ycj, yck, ycl, ycm, ycn, yco, ycp, ycq, ycr, zap, zao, reduceCtorEq, zbb, zbc, zba, zaz, Nat.reduceAdd, Nat.reduceMul, zaq, zar, eqPtr, zae, zaf, zab, zaa, zac, zad, hload, hstore, zal, zam, Nat.reduceAdd, Nat.reduceLeDiff, zbb, zas, zat, one, zau, zaw, zav, splice, zaj, zak, zab, zaa, ycs, yct, ycu, ycv, ycw, ycx, ycy, ycz, zan, zai, zax, zay, and_self, true_and, and_true, lenV, yda, Nat.le_refl, if_true, ydq, ydr, yds, ne_eq, not_true_eq_false, not_false_eq_true, ← decide_not, Decidable.not_not, ydt, ydu, ydz, ydv, ydw, List.drop_zero, eq_self, Bool.false_eq_true, List.getElem?_toArray, yea, yeb, List.nil_append, List.cons_append, Bool.false_and, Int.reduceEq, Int.reduceLT, Int.reduceLE, Int.reduceNe, zbc, zbb, yec, yed, yee, yef, ydx, ydy, hg, tk6, ls6, sz6, b0, z0, n0, i0, gcv]
    refine hk _ (G.length + 1 + 1) 0 (((f0.push _).push _).push _) (Nat.le_refl _) (fun m y hm => by omega) (fun y hy => by simp at hy) ⟨fun q => by simp at q, fun k hk => ?_⟩ (by have := f0.1; omega)
    injection hk with hk; subst hk
    rw [hget_app]
    simp [tfl, TC.cells]
  | some ad =>
    apply AW_loop_inv (fun k e H1 => ∃ (i : Nat) (s : Option Nat), i + k = l.length ∧ e = [(0, .slice (some ad) l.length z), (3, .pointer (some ⟨H.length, 0, none⟩)), (5, gcv s (l.take i)), (6, .int .i64 (i : Int))] ∧ Frm [] G H1 ∧ GC H1 s (l.take i) ∧ (∀ k, s = some k → G.length ≤ k) ∧
      (∀ (m : Nat) (y : TC), m < i → l[m]? = some y → y.Lt x)) _ l.length
    · exact ⟨0, none, by omega, rfl, Frm.refl _ _, ⟨fun _ => rfl, fun k hk => by simp at hk⟩, fun k hk => by simp at hk, fun m y hm => by omega⟩
    · rintro k e H1 ⟨i, s, hik, rfl, hf, hgc, hsk, hlt⟩
      have gb := hf.gets hg
      have lb := hget_lt gb
      have ltk : (l.take i).length = i := by rw [List.length_take]; omega
      have hbnd : boundsOf l.length l.length (some (.int .i64 (i : Int))) none = some (i, l.length) := by
        have : (0 : Int) ≤ (i : Int) ∧ (i : Int) ≤ (l.length : Int) := by omega
        simp only [boundsOf, zag, intOf?, this, and_self, if_true, Int.toNat_natCast]
      cases k with
      | zero =>
        have g0 : ¬ (i : Int) < (l.length : Int) := by omega
        have hin : i = l.length := by omega
        have hnl : ∀ y, l[i]? = some y → ¬ y.Lt x := fun y hy => by have := (List.getElem?_eq_some_iff.1 hy).1; omega
        cases s with
        | none =>
          have hi0 : i = 0 := by have := hgc.1 rfl; rw [this] at ltk; simp at ltk; omega
          have e2 : ∀ k1, Value.slice (some ⟨k1, 0, none⟩) 1 6 = Value.slice (some ⟨k1, 0, none⟩) (i + 1) 6 := fun _ => by rw [hi0]
          simp only [↓yaa, ↓yab, ↓yac, ↓yad, ↓yae, ↓yaf, ↓yag, ↓yah, ↓yai, ↓ydb, ↓ydc, ↓ydd, ↓yde, ↓ydf, ↓ydg, ↓yao, ↓yap, ↓ydh, ↓ydi, ↓ydj, ↓ydk, ↓ydl, ↓ydm, ↓ydn, ↓ydo, ↓ydp, ↓yax, yay, yaz, yba, ybb, ybc, ybd, ybe, ybf, ybg, ybh, ybi, ybj, ybk, ybl, ybm, ybn, ybo, ybp, ybq, ybr, ybs, ybt, ybu, ybv, ares, tup, ybw, ybx, yby, argsE, dval, aop, ev, evs, evo, evp, fillL, addrOf, intOf?, ybz, yca, ycb, ycc, ycd, yce, ycf, zah, zag, reduceIte, Nat.reduceEqDiff, ycg, ych, yci, ycj, yck, ycl, ycm, ycn, yco, ycp, ycq, ycr, zap, zao, reduceCtorEq, zbb, zbc, zba, zaz, Nat.reduceAdd, Nat.reduceMul, zaq, zar, eqPtr, zae, zaf, zab, zaa, zac, zad, hload, hstore, zal, zam, Nat.reduceAdd, Nat.reduceLeDiff, zbb, zas, zat, one, zau, zaw, zav, splice, zaj, zak, zab, zaa, ycs, yct, ycu, ycv, ycw, ycx, ycy, ycz, zan, zai, zax, zay, and_self, true_and, and_true, lenV, yda, Nat.le_refl, if_true, ydq, ydr, yds, ne_eq, not_true_eq_false, not_false_eq_true, ← decide_not, Decidable.not_not, ydt, ydu, ydz, ydv, ydw, List.drop_zero, eq_self, Bool.false_eq_true, List.getElem?_toArray, yea, yeb, List.nil_append, List.cons_append, Bool.false_and, Int.reduceEq, Int.reduceLT, Int.reduceLE, Int.reduceNe, zbc, zbb, yec, yed, yee, yef, ydx, ydy, g0, gb, gcv, tk6, ls6, sz6]
          have g3 : GC (H1 ++ [some (⟨true, [.int .i64 x.s, .int .i64 x.c, .int .i64 x.w, .bool x.b, .int .i64 x.p, .int .i64 x.n]⟩ : Blk)] ++ [some (⟨true, [.int .i64 x.s, .int .i64 x.c, .int .i64 x.w, .bool x.b, .int .i64 x.p, .int .i64 x.n]⟩ : Blk)]) (some (H1.length + 1)) (l.take i ++ [x]) := ⟨fun q => by simp at q, fun k hk => by
            injection hk with hk; subst hk
            rw [ydv, hi0]; simp [tfl, TC.cells]⟩
          have f3 : Frm [] G (H1 ++ [some (⟨true, [.int .i64 x.s, .int .i64 x.c, .int .i64 x.w, .bool x.b, .int .i64 x.p, .int .i64 x.n]⟩ : Blk)] ++ [some (⟨true, [.int .i64 x.s, .int .i64 x.c, .int .i64 x.w, .bool x.b, .int .i64 x.p, .int .i64 x.n]⟩ : Blk)]) := (hf.push _).push _
          have k3 : G.length ≤ H1.length + 1 := by have := hf.1; omega
          rw [e2]
          generalize H1 ++ [some (⟨true, [.int .i64 x.s, .int .i64 x.c, .int .i64 x.w, .bool x.b, .int .i64 x.p, .int .i64 x.n]⟩ : Blk)] ++ [some (⟨true, [.int .i64 x.s, .int .i64 x.c, .int .i64 x.w, .bool x.b, .int .i64 x.p, .int .i64 x.n]⟩ : Blk)] = H3 at *
          generalize H1.length + 1 = k1 at *
          have lim2 : (i + 1 + 0) * 48 ≤ 1000000000 := by omega
          have lt3 : (tfl (l.take i ++ [x])).length = (i + 1) * 6 := by rw [tfl, tflat_length, zai, ltk]; rfl
          have hk3 := g3.2 k1 rfl
          have hil : ¬ i < l.length := by omega
          have hie : (i = l.length) = True := eq_true hin
          simp only [↓yaa, ↓yab, ↓yac, ↓yad, ↓yae, ↓yaf, ↓yag, ↓yah, ↓yai, ↓ydb, ↓ydc, ↓ydd, ↓yde, ↓ydf, ↓ydg, ↓yao, ↓yap, ↓ydh, ↓ydi, ↓ydj, ↓ydk, ↓ydl, ↓ydm, ↓ydn, ↓ydo, ↓ydp, ↓yax, yay, yaz, yba, ybb, ybc, ybd, ybe, ybf, ybg, ybh, ybi, ybj, ybk, ybl, ybm, ybn, ybo, ybp, ybq, ybr, ybs, ybt, ybu, ybv, ares, tup, ybw, ybx, yby, argsE, dval, aop, ev, evs, evo, evp, fillL, addrOf, intOf?, ybz, yca, ycb, ycc, ycd, yce, ycf, zah, zag, reduceIte, Nat.reduceEqDiff, ycg, ych, yci, ycj, yck, ycl, ycm, ycn, yco, ycp, ycq, ycr, zap, zao, reduceCtorEq, zbb, zbc, zba, zaz, Nat.reduceAdd, Nat.reduceMul, zaq, zar, eqPtr, zae, zaf, zab, zaa, zac, zad, hload, hstore, zal, zam, Nat.reduceAdd, Nat.reduceLeDiff, zbb, zas, zat, one, zau, zaw, zav, splice, zaj, zak, zab, zaa, ycs, yct, ycu, ycv, ycw, ycx, ycy, ycz, zan, zai, zax, zay, and_self, true_and, and_true, lenV, yda, Nat.le_refl, if_true, ydq, ydr, yds, ne_eq, not_true_eq_false, not_false_eq_true, ← decide_not, Decidable.not_not, ydt, ydu, ydz, ydv, ydw, List.drop_zero, eq_self, Bool.false_eq_true, List.getElem?_toArray, yea, yeb, List.nil_append, List.cons_append, Bool.false_and, Int.reduceEq, Int.reduceLT, Int.reduceLE, Int.reduceNe, zbc, zbb, yec, yed, yee, yef, ydx, ydy, hbnd, hil, hie, false_and, if_false, hk3, lt3, lim2, tfl_one, tfl_append, List.append_nil]
          rw [show i + 1 = l.length + 1 by omega]
          refine hk _ H3.length i (((f0.then f3).set _ (.inr (by have := f0.1; omega))).push _) (by omega) hlt hnl ⟨fun q => by simp at q, fun k hk => ?_⟩ (by have := f0.1; have := f3.1; omega)
          injection hk with hk; subst hk
          rw [hget_grow, List.drop_of_length_le (by omega), List.append_nil]
        | some k' =>
          have hk' := hgc.2 k' rfl
          have lk' := hget_lt hk'
          have ltf : (tfl (l.take i)).length = i * 6 := by rw [tfl, tflat_length, ltk]
          have lim : (i + 1) * 48 ≤ 1000000000 := by omega
          simp only [↓yaa, ↓yab, ↓yac, ↓yad, ↓yae, ↓yaf, ↓yag, ↓yah, ↓yai, ↓ydb, ↓ydc, ↓ydd, ↓yde, ↓ydf, ↓ydg, ↓yao, ↓yap, ↓ydh, ↓ydi, ↓ydj, ↓ydk, ↓ydl, ↓ydm, ↓ydn, ↓ydo, ↓ydp, ↓yax, yay, yaz, yba, ybb, ybc, ybd, ybe, ybf, ybg, ybh, ybi, ybj, ybk, ybl, ybm, ybn, ybo, ybp, ybq, ybr, ybs, ybt, ybu, ybv, ares, tup, ybw, ybx, yby, argsE, dval, aop, ev, evs, evo, evp, fillL, addrOf, intOf?, ybz, yca, ycb, ycc, ycd, yce, ycf, zah, zag, reduceIte, Nat.reduceEqDiff, ycg, ych, yci, ycj, yck, ycl, ycm, ycn, yco, ycp, ycq, ycr, zap, zao, reduceCtorEq, zbb, zbc, zba, zaz, Nat.reduceAdd, Nat.reduceMul, zaq, zar, eqPtr, zae, zaf, zab, zaa, zac, zad, hload, hstore, zal, zam, Nat.reduceAdd, Nat.reduceLeDiff, zbb, zas, zat, one, zau, zaw, zav, splice, zaj, zak, zab, zaa, ycs, yct, ycu, ycv, ycw, ycx, ycy, ycz, zan, zai, zax, zay, and_self, true_and, and_true, lenV, yda, Nat.le_refl, if_true, ydq, ydr, yds, ne_eq, not_true_eq_false, not_false_eq_true, ← decide_not, Decidable.not_not, ydt, ydu, ydz, ydv, ydw, List.drop_zero, eq_self, Bool.false_eq_true, List.getElem?_toArray, yea, yeb, List.nil_append, List.cons_append, Bool.false_and, Int.reduceEq, Int.reduceLT, Int.reduceLE, Int.reduceNe, zbc, zbb, yec, yed, yee, yef, ydx, ydy, g0, gb, gcv, ltk, tk6, ls6, sz6, yem, lk', hk', ltf, lim, tfl_snoc]
          have g3 : GC ((H1 ++ [some (⟨true, [.int .i64 x.s, .int .i64 x.c, .int .i64 x.w, .bool x.b, .int .i64 x.p, .int .i64 x.n]⟩ : Blk)]).set k' none ++ [some (⟨true, tfl (l.take i ++ [x])⟩ : Blk)]) (some (H1.length + 1)) (l.take i ++ [x]) := ⟨fun q => by simp at q, fun k hk => by
            injection hk with hk; subst hk
            have := @hget_grow (H1 ++ [some (⟨true, [.int .i64 x.s, .int .i64 x.c, .int .i64 x.w, .bool x.b, .int .i64 x.p, .int .i64 x.n]⟩ : Blk)]) k' (some (⟨true, tfl (l.take i ++ [x])⟩ : Blk))
            rw [zai] at this; exact this⟩
          have f3 : Frm [] G ((H1 ++ [some (⟨true, [.int .i64 x.s, .int .i64 x.c, .int .i64 x.w, .bool x.b, .int .i64 x.p, .int .i64 x.n]⟩ : Blk)]).set k' none ++ [some (⟨true, tfl (l.take i ++ [x])⟩ : Blk)]) := ((hf.push _).set _ (.inr (hsk k' rfl))).push _
          have k3 : G.length ≤ H1.length + 1 := by have := hf.1; omega
          generalize (H1 ++ [some (⟨true, [.int .i64 x.s, .int .i64 x.c, .int .i64 x.w, .bool x.b, .int .i64 x.p, .int .i64 x.n]⟩ : Blk)]).set k' none ++ [some (⟨true, tfl (l.take i ++ [x])⟩ : Blk)] = H3 at *
          generalize H1.length + 1 = k1 at *
          have lim2 : (i + 1 + 0) * 48 ≤ 1000000000 := by omega
          have lt3 : (tfl (l.take i ++ [x])).length = (i + 1) * 6 := by rw [tfl, tflat_length, zai, ltk]; rfl
          have hk3 := g3.2 k1 rfl
          have hil : ¬ i < l.length := by omega
          have hie : (i = l.length) = True := eq_true hin
          simp only [↓yaa, ↓yab, ↓yac, ↓yad, ↓yae, ↓yaf, ↓yag, ↓yah, ↓yai, ↓ydb, ↓ydc, ↓ydd, ↓yde, ↓ydf, ↓ydg, ↓yao, ↓yap, ↓ydh, ↓ydi, ↓ydj, ↓ydk, ↓ydl, ↓ydm, ↓ydn, ↓ydo, ↓ydp, ↓yax, yay, yaz, yba, ybb, ybc, ybd, ybe, ybf, ybg, ybh, ybi, ybj, ybk, ybl, ybm, ybn, ybo, ybp, ybq, ybr, ybs, ybt, ybu, ybv, ares, tup, ybw, ybx, yby, argsE, dval, aop, ev, evs, evo, evp, fillL, addrOf, intOf?, ybz, yca, ycb, ycc, ycd, yce, ycf, zah, zag, reduceIte, Nat.reduceEqDiff, ycg, ych, yci, ycj, yck, ycl, ycm, ycn, yco, ycp, ycq, ycr, zap, zao, reduceCtorEq, zbb, zbc, zba, zaz, Nat.reduceAdd, Nat.reduceMul, zaq, zar, eqPtr, zae, zaf, zab, zaa, zac, zad, hload, hstore, zal, zam, Nat.reduceAdd, Nat.reduceLeDiff, zbb, zas, zat, one, zau, zaw, zav, splice, zaj, zak, zab, zaa, ycs, yct, ycu, ycv, ycw, ycx, ycy, ycz, zan, zai, zax, zay, and_self, true_and, and_true, lenV, yda, Nat.le_refl, if_true, ydq, ydr, yds, ne_eq, not_true_eq_false, not_false_eq_true, ← decide_not, Decidable.not_not, ydt, ydu, ydz, ydv, ydw, List.drop_zero, eq_self, Bool.false_eq_true, List.getElem?_toArray, yea, yeb, List.nil_append, List.cons_append, Bool.false_and, Int.reduceEq, Int.reduceLT, Int.reduceLE, Int.reduceNe, zbc, zbb, yec, yed, yee, yef, ydx, ydy, hbnd, hil, hie, false_and, if_false, hk3, lt3, lim2, tfl_one, tfl_append, List.append_nil]
          rw [show i + 1 = l.length + 1 by omega]
          refine hk _ H3.length i (((f0.then f3).set _ (.inr (by have := f0.1; omega))).push _) (by omega) hlt hnl ⟨fun q => by simp at q, fun k hk => ?_⟩ (by have := f0.1; have := f3.1; omega)
          injection hk with hk; subst hk
          rw [hget_grow, List.drop_of_length_le (by omega), List.append_nil]
      | succ k =>
        obtain ⟨y, hy⟩ : ∃ y, l[i]? = some y := ⟨_, List.getElem?_eq_getElem (by omega)⟩
        obtain ⟨b, o, w, cs, hb, hz, q1, q2, q3, q4⟩ := (hG.frame0 hf) i y hy
        simp only [Option.some.injEq] at hb
        subst hb hz
        obtain ⟨p, hp, hc⟩ := f157 y x H1
        unfold TC.v at hc
        have g0 : (i : Int) < (l.length : Int) := by omega
        have g1 : (0 : Int) ≤ (i : Int) := by omega
        have hin : i < l.length := by omega
        have wx : IntKind.i64.wrap ((i : Int) + 1) = ((i + 1 : Nat) : Int) := by rw [wrap_i64 (by omega) (by omega)]; omega
        cases p with
        | false =>
          have hnl : ∀ y', l[i]? = some y' → ¬ y'.Lt x := fun y' hy' hh => by
            rw [hy] at hy'; injection hy' with hy'; subst hy'
            have := hp.2 hh; simp at this
          cases s with
          | none =>
            have hi0 : i = 0 := by have := hgc.1 rfl; rw [this] at ltk; simp at ltk; omega
            have e2 : ∀ k1, Value.slice (some ⟨k1, 0, none⟩) 1 6 = Value.slice (some ⟨k1, 0, none⟩) (i + 1) 6 := fun _ => by rw [hi0]
            simp only [↓yaa, ↓yab, ↓yac, ↓yad, ↓yae, ↓yaf, ↓yag, ↓yah, ↓yai, ↓ydb, ↓ydc, ↓ydd, ↓yde, ↓ydf, ↓ydg, ↓yao, ↓yap, ↓ydh, ↓ydi, ↓ydj, ↓ydk, ↓ydl, ↓ydm, ↓ydn, ↓ydo, ↓ydp, ↓yax, yay, yaz, yba, ybb, ybc, ybd, ybe, ybf, ybg, ybh, ybi, ybj, ybk, ybl, ybm, ybn, ybo, ybp, ybq, ybr, ybs, ybt, ybu, ybv, ares, tup, ybw, ybx, yby, argsE, dval, aop, ev, evs, evo, evp, fillL, addrOf, intOf?, ybz, yca, ycb, ycc, ycd, yce, ycf, zah, zag, reduceIte, Nat.reduceEqDiff, ycg, ych, yci, ycj, yck, ycl, ycm, ycn, yco, ycp, ycq, ycr, zap, zao, reduceCtorEq, zbb, zbc, zba, zaz, Nat.reduceAdd, Nat.reduceMul, zaq, zar, eqPtr, zae, zaf, zab, zaa, zac, zad, hload, hstore, zal, zam, Nat.reduceAdd, Nat.reduceLeDiff, zbb, zas, zat, one, zau, zaw, zav, splice, zaj, zak, zab, zaa, ycs, yct, ycu, ycv, ycw, ycx, ycy, ycz, zan, zai, zax, zay, and_self, true_and, and_true, lenV, yda, Nat.le_refl, if_true, ydq, ydr, yds, ne_eq, not_true_eq_false, not_false_eq_true, ← decide_not, Decidable.not_not, ydt, ydu, ydz, ydv, ydw, List.drop_zero, eq_self, Bool.false_eq_true, List.getElem?_toArray, yea, yeb, List.nil_append, List.cons_append, Bool.false_and, Int.reduceEq, Int.reduceLT, Int.reduceLE, Int.reduceNe, zbc, zbb, yec, yed, yee, yef, ydx, ydy, g0, g1, Int.toNat_natCast, q1, q2, q3, hc, gb, gcv, tk6, ls6, sz6]
            have g3 : GC (H1 ++ [some (⟨true, [.int .i64 x.s, .int .i64 x.c, .int .i64 x.w, .bool x.b, .int .i64 x.p, .int .i64 x.n]⟩ : Blk)] ++ [some (⟨true, [.int .i64 x.s, .int .i64 x.c, .int .i64 x.w, .bool x.b, .int .i64 x.p, .int .i64 x.n]⟩ : Blk)]) (some (H1.length + 1)) (l.take i ++ [x]) := ⟨fun q => by simp at q, fun k hk => by
              injection hk with hk; subst hk
              rw [ydv, hi0]; simp [tfl, TC.cells]⟩
            have f3 : Frm [] G (H1 ++ [some (⟨true, [.int .i64 x.s, .int .i64 x.c, .int .i64 x.w, .bool x.b, .int .i64 x.p, .int .i64 x.n]⟩ : Blk)] ++ [some (⟨true, [.int .i64 x.s, .int .i64 x.c, .int .i64 x.w, .bool x.b, .int .i64 x.p, .int .i64 x.n]⟩ : Blk)]) := (hf.push _).push _
            have k3 : G.length ≤ H1.length + 1 := by have := hf.1; omega
            rw [e2]
            generalize H1 ++ [some (⟨true, [.int .i64 x.s, .int .i64 x.c, .int .i64 x.w, .bool x.b, .int .i64 x.p, .int .i64 x.n]⟩ : Blk)] ++ [some (⟨true, [.int .i64 x.s, .int .i64 x.c, .int .i64 x.w, .bool x.b, .int .i64 x.p, .int .i64 x.n]⟩ : Blk)] = H3 at *
            generalize H1.length + 1 = k1 at *
            have hr := (hG.frame0 f3).rest (l.length - i - 1) i (by omega)
            obtain ⟨b2, o2, w2, cs2, hb, hz, hh, hle, htk⟩ := hr
            rw [show l.length - i - 1 + 1 = l.length - i by omega] at hle htk
            simp only [Option.some.injEq, Addr.mk.injEq, and_true] at hb
            obtain ⟨rfl, rfl⟩ := hb
            have m0 : ¬ (l.length - i = 0) := by omega
            have lim2 : (i + 1 + (l.length - i)) * 48 ≤ 1000000000 := by omega
            have lt3 : (tfl (l.take i ++ [x])).length = (i + 1) * 6 := by rw [tfl, tflat_length, zai, ltk]; rfl
            have hk3 := g3.2 k1 rfl
            simp only [↓yaa, ↓yab, ↓yac, ↓yad, ↓yae, ↓yaf, ↓yag, ↓yah, ↓yai, ↓ydb, ↓ydc, ↓ydd, ↓yde, ↓ydf, ↓ydg, ↓yao, ↓yap, ↓ydh, ↓ydi, ↓ydj, ↓ydk, ↓ydl, ↓ydm, ↓ydn, ↓ydo, ↓ydp, ↓yax, yay, yaz, yba, ybb, ybc, ybd, ybe, ybf, ybg, ybh, ybi, ybj, ybk, ybl, ybm, ybn, ybo, ybp, ybq, ybr, ybs, ybt, ybu, ybv, ares, tup, ybw, ybx, yby, argsE, dval, aop, ev, evs, evo, evp, fillL, addrOf, intOf?, ybz, yca, ycb, ycc, ycd, yce, ycf, zah, zag, reduceIte, Nat.reduceEqDiff, ycg, ych, yci, ycj, yck, ycl, ycm, ycn, yco, ycp, ycq, ycr, zap, zao, reduceCtorEq, zbb, zbc, zba, zaz, Nat.reduceAdd, Nat.reduceMul, zaq, zar, eqPtr, zae, zaf, zab, zaa, zac, zad, hload, hstore, zal, zam, Nat.reduceAdd, Nat.reduceLeDiff, zbb, zas, zat, one, zau, zaw, zav, splice, zaj, zak, zab, zaa, ycs, yct, ycu, ycv, ycw, ycx, ycy, ycz, zan, zai, zax, zay, and_self, true_and, and_true, lenV, yda, Nat.le_refl, if_true, ydq, ydr, yds, ne_eq, not_true_eq_false, not_false_eq_true, ← decide_not, Decidable.not_not, ydt, ydu, ydz, ydv, ydw, List.drop_zero, eq_self, Bool.false_eq_true, List.getElem?_toArray, yea, yeb, List.nil_append, List.cons_append, Bool.false_and, Int.reduceEq, Int.reduceLT, Int.reduceLE, Int.reduceNe, zbc, zbb, yec, yed, yee, yef, ydx, ydy, hbnd, hin, m0, hh, hle, htk, hk3, lt3, lim2, tfl_one, tfl_append, List.append_assoc]
            have e3 : i + 1 + (l.length - i) = l.length + 1 := by omega
            rw [e3]
            refine hk _ H3.length i (((f0.then f3).set _ (.inr (by have := f0.1; omega))).push _) (by omega) hlt hnl ⟨fun q => by simp at q, fun k hk => ?_⟩ (by have := f0.1; have := f3.1; omega)
            injection hk with hk; subst hk
            rw [hget_grow, List.append_assoc]; rfl
          | some k' =>
            have hk' := hgc.2 k' rfl
            have lk' := hget_lt hk'
            have ltf : (tfl (l.take i)).length = i * 6 := by rw [tfl, tflat_length, ltk]
            have lim : (i + 1) * 48 ≤ 1000000000 := by omega
            simp only [↓yaa, ↓yab, ↓yac, ↓yad, ↓yae, ↓yaf, ↓yag, ↓yah, ↓yai, ↓ydb, ↓ydc, ↓ydd, ↓yde, ↓ydf, ↓ydg, ↓yao, ↓yap, ↓ydh, ↓ydi, ↓ydj, ↓ydk, ↓ydl, ↓ydm, ↓ydn, ↓ydo, ↓ydp, ↓yax, yay, yaz, yba, ybb, ybc, ybd, ybe, ybf, ybg, ybh, ybi, ybj, ybk, ybl, ybm, ybn, ybo, ybp, ybq, ybr, ybs, ybt, ybu, ybv, ares, tup, ybw, ybx, yby, argsE, dval, aop, ev, evs, evo, evp, fillL, addrOf, intOf?, ybz, yca, ycb, ycc, ycd, yce, ycf, zah, zag, reduceIte, Nat.reduceEqDiff, ycg, ych, yci, ycj, yck, ycl, ycm, ycn, yco, ycp, ycq, ycr, zap, zao, reduceCtorEq, zbb, zbc, zba, zaz, Nat.reduceAdd, Nat.reduceMul, zaq, zar, eqPtr, zae, zaf, zab, zaa, zac, zad, hload, hstore, zal, zam, Nat.reduceAdd, Nat.reduceLeDiff, zbb, zas, zat, one, zau, zaw, zav, splice, zaj, zak, zab, zaa, ycs, yct, ycu, ycv, ycw, ycx, ycy, ycz, zan, zai, zax, zay, and_self, true_and, and_true, lenV, yda, Nat.le_refl, if_true, ydq, ydr, yds, ne_eq, not_true_eq_false, not_false_eq_true, ← decide_not, Decidable.not_not, ydt, ydu, ydz, ydv, ydw, List.drop_zero, eq_self, Bool.false_eq_true, List.getElem?_toArray, yea, yeb, List.nil_append, List.cons_append, Bool.false_and, Int.reduceEq, Int.reduceLT, Int.reduceLE, Int.reduceNe, zbc, zbb, yec, yed, yee, yef, ydx, ydy, g0, g1, Int.toNat_natCast, q1, q2, q3, hc, gb, gcv, ltk, tk6, ls6, sz6, yem, lk', hk', ltf, lim, tfl_snoc]
            have g3 : GC ((H1 ++ [some (⟨true, [.int .i64 x.s, .int .i64 x.c, .int .i64 x.w, .bool x.b, .int .i64 x.p, .int .i64 x.n]⟩ : Blk)]).set k' none ++ [some (⟨true, tfl (l.take i ++ [x])⟩ : Blk)]) (some (H1.length + 1)) (l.take i ++ [x]) := ⟨fun q => by simp at q, fun k hk => by
              injection hk with hk; subst hk
              have := @hget_grow (H1 ++ [some (⟨true, [.int .i64 x.s, .int .i64 x.c, .int .i64 x.w, .bool x.b, .int .i64 x.p, .int .i64 x.n]⟩ : Blk)]) k' (some (⟨true, tfl (l.take i ++ [x])⟩ : Blk))
              rw [zai] at this; exact this⟩
            have f3 : Frm [] G ((H1 ++ [some (⟨true, [.int .i64 x.s, .int .i64 x.c, .int .i64 x.w, .bool x.b, .int .i64 x.p, .int .i64 x.n]⟩ : Blk)]).set k' none ++ [some (⟨true, tfl (l.take i ++ [x])⟩ : Blk)]) := ((hf.push _).set _ (.inr (hsk k' rfl))).push _
            have k3 : G.length ≤ H1.length + 1 := by have := hf.1; omega
            generalize (H1 ++ [some (⟨true, [.int .i64 x.s, .int .i64 x.c, .int .i64 x.w, .bool x.b, .int .i64 x.p, .int .i64 x.n]⟩ : Blk)]).set k' none ++ [some (⟨true, tfl (l.take i ++ [x])⟩ : Blk)] = H3 at *
            generalize H1.length + 1 = k1 at *
            have hr := (hG.frame0 f3).rest (l.length - i - 1) i (by omega)
            obtain ⟨b2, o2, w2, cs2, hb, hz, hh, hle, htk⟩ := hr
            rw [show l.length - i - 1 + 1 = l.length - i by omega] at hle htk
            simp only [Option.some.injEq, Addr.mk.injEq, and_true] at hb
            obtain ⟨rfl, rfl⟩ := hb
            have m0 : ¬ (l.length - i = 0) := by omega
            have lim2 : (i + 1 + (l.length - i)) * 48 ≤ 1000000000 := by omega
            have lt3 : (tfl (l.take i ++ [x])).length = (i + 1) * 6 := by rw [tfl, tflat_length, zai, ltk]; rfl
            have hk3 := g3.2 k1 rfl
            simp only [↓yaa, ↓yab, ↓yac, ↓yad, ↓yae, ↓yaf, ↓yag, ↓yah, ↓yai, ↓ydb, ↓ydc, ↓ydd, ↓yde, ↓ydf, ↓ydg, ↓yao, ↓yap, ↓ydh, ↓ydi, ↓ydj, ↓ydk, ↓ydl, ↓ydm, ↓ydn, ↓ydo, ↓ydp, ↓yax, yay, yaz, yba, ybb, ybc, ybd, ybe, ybf, ybg, ybh, ybi, ybj, ybk, ybl, ybm, ybn, ybo, ybp, ybq, ybr, ybs, ybt, ybu, ybv, ares, tup, ybw, ybx, yby, argsE, dval, aop, ev, evs, evo, evp, fillL, addrOf, intOf?, ybz, yca, ycb, ycc, ycd, yce, ycf, zah, zag, reduceIte, Nat.reduceEqDiff, ycg, ych, yci, ycj, yck, ycl, ycm, ycn, yco, ycp, ycq, ycr, zap, zao, reduceCtorEq, zbb, zbc, zba, zaz, Nat.reduceAdd, Nat.reduceMul, zaq, zar, eqPtr, zae, zaf, zab, zaa, zac, zad, hload, hstore, zal, zam, Nat.reduceAdd, Nat.reduceLeDiff, zbb, zas, zat, one, zau, zaw, zav, splice, zaj, zak, zab, zaa, ycs, yct, ycu, ycv, ycw, ycx, ycy, ycz, zan, zai, zax, zay, and_self, true_and, and_true, lenV, yda, Nat.le_refl, if_true, ydq, ydr, yds, ne_eq, not_true_eq_false, not_false_eq_true, ← decide_not, Decidable.not_not, ydt, ydu, ydz, ydv, ydw, List.drop_zero, eq_self, Bool.false_eq_true, List.getElem?_toArray, yea, yeb, List.nil_append, List.cons_append, Bool.false_and, Int.reduceEq, Int.reduceLT, Int.reduceLE, Int.reduceNe, zbc, zbb, yec, yed, yee, yef, ydx, ydy, hbnd, hin, m0, hh, hle, htk, hk3, lt3, lim2, tfl_one, tfl_append, List.append_assoc]
            have e3 : i + 1 + (l.length - i) = l.length + 1 := by omega
            rw [e3]
            refine hk _ H3.length i (((f0.then f3).set _ (.inr (by have := f0.1; omega))).push _) (by omega) hlt hnl ⟨fun q => by simp at q, fun k hk => ?_⟩ (by have := f0.1; have := f3.1; omega)
            injection hk with hk; subst hk
            rw [hget_grow, List.append_assoc]; rfl
        | true =>
          have hlt2 : ∀ (m : Nat) (y' : TC), m < i + 1 → l[m]? = some y' → y'.Lt x := fun m y' hm hy' => by
            by_cases e : m = i
            · subst e; rw [hy] at hy'; injection hy' with hy'; subst hy'; exact hp.1 rfl
            · exact hlt m y' (by omega) hy'
          have htk2 := take_next' hy
          have f1 := hf.push (some (⟨true, [.int .i64 y.s, .int .i64 y.c, .int .i64 y.w, .bool y.b, .int .i64 y.p, .int .i64 y.n]⟩ : Blk))
          cases s with
          | none =>
            have hi0 : i = 0 := by have := hgc.1 rfl; rw [this] at ltk; simp at ltk; omega
            simp only [↓yaa, ↓yab, ↓yac, ↓yad, ↓yae, ↓yaf, ↓yag, ↓yah, ↓yai, ↓ydb, ↓ydc, ↓ydd, ↓yde, ↓ydf, ↓ydg, ↓yao, ↓yap, ↓ydh, ↓ydi, ↓ydj, ↓ydk, ↓ydl, ↓ydm, ↓ydn, ↓ydo, ↓ydp, ↓yax, yay, yaz, yba, ybb, ybc, ybd, ybe, ybf, ybg, ybh, ybi, ybj, ybk, ybl, ybm, ybn, ybo, ybp, ybq, ybr, ybs, ybt, ybu, ybv, ares, tup, ybw, ybx, yby, argsE, dval, aop, ev, evs, evo, evp, fillL, addrOf, intOf?, ybz, yca, ycb, ycc, ycd, yce, ycf, zah, zag, reduceIte, Nat.reduceEqDiff, ycg, ych, yci, ycj, yck, ycl, ycm, ycn, yco, ycp, ycq, ycr, zap, zao, reduceCtorEq, zbb, zbc, zba, zaz, Nat.reduceAdd, Nat.reduceMul, zaq, zar, eqPtr, zae, zaf, zab, zaa, zac, zad, hload, hstore, zal, zam, Nat.reduceAdd, Nat.reduceLeDiff, zbb, zas, zat, one, zau, zaw, zav, splice, zaj, zak, zab, zaa, ycs, yct, ycu, ycv, ycw, ycx, ycy, ycz, zan, zai, zax, zay, and_self, true_and, and_true, lenV, yda, Nat.le_refl, if_true, ydq, ydr, yds, ne_eq, not_true_eq_false, not_false_eq_true, ← decide_not, Decidable.not_not, ydt, ydu, ydz, ydv, ydw, List.drop_zero, eq_self, Bool.false_eq_true, List.getElem?_toArray, yea, yeb, List.nil_append, List.cons_append, Bool.false_and, Int.reduceEq, Int.reduceLT, Int.reduceLE, Int.reduceNe, zbc, zbb, yec, yed, yee, yef, ydx, ydy, g0, g1, Int.toNat_natCast, q1, q2, q3, hc, gb, gcv, tk6, ls6, sz6, wx]
            refine ⟨k, by omega, i + 1, some (H1.length + 1), by omega, ?_, f1.push _, ⟨fun q => by simp at q, fun k hk => ?_⟩, fun k hk => ?_, hlt2⟩
            · have htk3 : (l.take (i + 1)).length = 1 := by rw [List.length_take]; omega
              simp only [gcv, htk3]
            · injection hk with hk; subst hk
              rw [ydv, htk2, hi0]; simp [tfl, TC.cells]
            · injection hk with hk; subst hk; have := hf.1; omega
          | some k' =>
            have hk' := hgc.2 k' rfl
            have lk' := hget_lt hk'
            have ltf : (tfl (l.take i)).length = i * 6 := by rw [tfl, tflat_length, ltk]
            have lim : (i + 1) * 48 ≤ 1000000000 := by omega
            have lq := hget_lt q1
            simp only [↓yaa, ↓yab, ↓yac, ↓yad, ↓yae, ↓yaf, ↓yag, ↓yah, ↓yai, ↓ydb, ↓ydc, ↓ydd, ↓yde, ↓ydf, ↓ydg, ↓yao, ↓yap, ↓ydh, ↓ydi, ↓ydj, ↓ydk, ↓ydl, ↓ydm, ↓ydn, ↓ydo, ↓ydp, ↓yax, yay, yaz, yba, ybb, ybc, ybd, ybe, ybf, ybg, ybh, ybi, ybj, ybk, ybl, ybm, ybn, ybo, ybp, ybq, ybr, ybs, ybt, ybu, ybv, ares, tup, ybw, ybx, yby, argsE, dval, aop, ev, evs, evo, evp, fillL, addrOf, intOf?, ybz, yca, ycb, ycc, ycd, yce, ycf, zah, zag, reduceIte, Nat.reduceEqDiff, ycg, ych, yci, ycj, yck, ycl, ycm, ycn, yco, ycp, ycq, ycr, zap, zao, reduceCtorEq, zbb, zbc, zba, zaz, Nat.reduceAdd, Nat.reduceMul, zaq, zar, eqPtr, zae, zaf, zab, zaa, zac, zad, hload, hstore, zal, zam, Nat.reduceAdd, Nat.reduceLeDiff, zbb, zas, zat, one, zau, zaw, zav, splice, zaj, zak, zab, zaa, ycs, yct, ycu, ycv, ycw, ycx, ycy, ycz, zan, zai, zax, zay, and_self, true_and, and_true, lenV, yda, Nat.le_refl, if_true, ydq, ydr, yds, ne_eq, not_true_eq_false, not_false_eq_true, ← decide_not, Decidable.not_not, ydt, ydu, ydz, ydv, ydw, List.drop_zero, eq_self, Bool.false_eq_true, List.getElem?_toArray, yea, yeb, List.nil_append, List.cons_append, Bool.false_and, Int.reduceEq, Int.reduceLT, Int.reduceLE, Int.reduceNe, zbc, zbb, yec, yed, yee, yef, ydx, ydy, g0, g1, Int.toNat_natCast, q1, q2, q3, hc, gb, gcv, ltk, tk6, ls6, sz6, yem, lk', hk', ltf, lim, tfl_snoc, wx]
            refine ⟨k, by omega, i + 1, some (H1.length + 1), by omega, ?_, (f1.set _ (.inr (hsk k' rfl))).push _, ⟨fun q => by simp at q, fun k hk => ?_⟩, fun k hk => ?_, hlt2⟩
            · simp only [gcv, htk2, zai, ltk, zal, zam]
            · injection hk with hk; subst hk
              have := @hget_grow (H1 ++ [some (⟨true, [.int .i64 y.s, .int .i64 y.c, .int .i64 y.w, .bool y.b, .int .i64 y.p, .int .i64 y.n]⟩ : Blk)]) k' (some (⟨true, tfl (l.take i ++ [y])⟩ : Blk))
              rw [zai] at this
              rw [htk2]; exact this
            · injection hk with hk; subst hk; have := hf.1; omega

end Go.Proofs.Ytejcabdejoameaa.AI

