/- What is proved on the way to BeaconTurns, part 4: an interpreter of the code, its soundness, and what the functions answer. -/
import Derived.Calls
import Derived.Orders
import Derived.RowKit3
import Derived.KernelRfl
import Derived.WalkKit
import Derived.Laws.IdiomStrings
import Derived.Laws.StructEq
import Derived.LoopN
import Derived.Test.YtejcabdejoameaaBt3
/- Cells and their tables. -/
set_option linter.unusedSimpArgs false
set_option linter.unusedVariables false
set_option maxHeartbeats 4000000
namespace Go.Proofs.Ytejcabdejoameaa.AI
open Go

structure TC where
  s : Int
  c : Int
  w : Int
  b : Bool
  p : Int
  n : Int
def TC.cells (x : TC) : List Value := [.int .i64 x.s, .int .i64 x.c, .int .i64 x.w, .bool x.b, .int .i64 x.p, .int .i64 x.n]
def TC.v (x : TC) : Value := .agg #[.int .i64 x.s, .int .i64 x.c, .int .i64 x.w, .bool x.b, .int .i64 x.p, .int .i64 x.n]
structure Tb where
  node : Int
  len : Int
  cs : List TC
def Tb.v (t : Tb) (a : Option Addr) (z : Nat) : Value := .agg #[.int .i64 t.node, .int .i64 t.len, .slice a t.cs.length z]
def TC.Lt (a b : TC) : Prop := a.s < b.s ∨ a.s = b.s ∧ a.w < b.w
def TC.Form (x : TC) (node len : Int) : Prop := (1 ≤ x.w ∧ x.w ≤ 3) ∧ (x.w = 1 ∨ x.n = -1) ∧ (x.w = 3 → x.p = -1 ∧ x.b = false) ∧ (0 ≤ x.s ∧ x.s < len) ∧ (0 ≤ x.c ∧ x.c < 16) ∧ (x.w = 3 ∨ ((0 ≤ x.p ∧ x.p < 32) ∧ x.p ≠ node)) ∧ (x.w = 1 → 0 ≤ x.n)
structure Tb.Ok (t : Tb) : Prop where
  node : 0 ≤ t.node ∧ t.node < 32
  len : 1 ≤ t.len ∧ t.len ≤ 512
  few : t.cs.length ≤ 512
  form : ∀ (i : Nat) (x : TC), t.cs[i]? = some x → x.Form t.node t.len
  lt : ∀ (i : Nat) (x y : TC), t.cs[i]? = some x → t.cs[i + 1]? = some y → x.Lt y

/-- Some cells in the memory. -/
def TI (H : Heap) (a : Option Addr) (z : Nat) (l : List TC) : Prop := ∀ (i : Nat) (x : TC), l[i]? = some x → ∃ b o w cs, a = some ⟨b, o, none⟩ ∧ z = 6 ∧ hget H b = some ⟨w, cs⟩ ∧ o + i * 6 + 6 ≤ cs.length ∧ List.take 6 (List.drop (o + i * 6) cs) = [.int .i64 x.s, .int .i64 x.c, .int .i64 x.w, .bool x.b, .int .i64 x.p, .int .i64 x.n] ∧ cs[o + i * 6]? = some (.int .i64 x.s)
theorem TI.frame {H H' : Heap} {a : Option Addr} {z : Nat} {l : List TC} (h : TI H a z l) {O : List Nat} (f : Frm O H H') (hO : ∀ b o, a = some ⟨b, o, none⟩ → b ∉ O) : TI H' a z l := by
  intro i x hx
  obtain ⟨b, o, w, cs, h1, h2, h3, h4⟩ := h i x hx
  exact ⟨b, o, w, cs, h1, h2, by rw [f.2 b (hget_lt h3) (hO b o h1)]; exact h3, h4⟩
theorem TI.frame0 {H H' : Heap} {a : Option Addr} {z : Nat} {l : List TC} (h : TI H a z l) (f : Frm [] H H') : TI H' a z l := h.frame f (by simp)
theorem TI.push {H : Heap} {a : Option Addr} {z : Nat} {l : List TC} (h : TI H a z l) (b : Option Blk) : TI (H ++ [b]) a z l := h.frame0 ((Frm.refl _ _).push b)

theorem tk6 (a b c d e f : Value) : List.take 6 [a, b, c, d, e, f] = [a, b, c, d, e, f] := rfl
theorem ls6 (a b c d e f : Value) : [a, b, c, d, e, f].toArray = #[a, b, c, d, e, f] := rfl
theorem sz6 (a b c d e f : Value) : (#[a, b, c, d, e, f] : Array Value).size = 6 := rfl
theorem tk3 (a b c : Value) : List.take 3 [a, b, c] = [a, b, c] := rfl
theorem ls3 (a b c : Value) : [a, b, c].toArray = #[a, b, c] := rfl

theorem f168 (x : Int) (H : Heap) : AC tbl 168 [.int .i64 x] H = some (.bool (decide (0 ≤ x ∧ x < 32)), H) := by
  refine AC_iso (F := F168) rfl (by simp [F168]) rfl rfl rfl ?_ H
  apply AC_eq
  apply AC_wp (F := F168) rfl (by simp [F168]) (.inr rfl)
  unfold F168
  (repeat' (first | simp only [↓yaa, ↓yab, ↓yac, ↓yad, ↓yae, ↓yaf, ↓yag, ↓yah, ↓yai, ↓ydb, ↓ydc, ↓ydd, ↓yde, ↓ydf, ↓ydg, ↓yao, ↓yap, ↓ydh, ↓ydi, ↓ydj, ↓ydk, ↓ydl, ↓ydm, ↓ydn, ↓ydo, ↓ydp, ↓yax, yay, yaz, yba, ybb, ybc, ybd, ybe, ybf, ybg, ybh, ybi, ybj, ybk, ybl, ybm, ybn, ybo, ybp, ybq, ybr, ybs, ybt, ybu, ybv, ares, tup, ybw, ybx, yby, argsE, dval, aop, ev, evs, evo, evp, fillL, addrOf, intOf?, ybz, yca, ycb, ycc, ycd, yce, ycf, zah, zag, reduceIte, Nat.reduceEqDiff, ycg, ych, yci, ycj, yck, ycl, ycm, ycn, yco, ycp, ycq, ycr, zap, zao, reduceCtorEq, zbb, zbc, zba, zaz, Nat.reduceAdd, Nat.reduceMul, zaq, zar, eqPtr, zae, zaf, zab, zaa, zac, zad, hload, hstore, zal, zam, Nat.reduceAdd, Nat.reduceLeDiff, zbb, zas, zat, one, zau, zaw, zav, splice, zaj, zak, zab, zaa, ycs, yct, ycu, ycv, ycw, ycx, ycy, ycz, zan, zai, zax, zay, and_self, true_and, and_true, lenV, yda, Nat.le_refl, if_true, ydq, ydr, yds, ne_eq, not_true_eq_false, not_false_eq_true, ← decide_not, Decidable.not_not, ydt, ydu, ydz, ydv, ydw, List.drop_zero, eq_self, Bool.false_eq_true, List.getElem?_toArray, yea, yeb, List.nil_append, List.cons_append, Bool.false_and, Int.reduceEq, Int.reduceLT, Int.reduceLE, Int.reduceNe, zbc, zbb, yec, yed, yee, yef, ydx, ydy, false_and, *] | refine yeg (fun _ => ?_) (fun _ => ?_) | refine yeh (fun _ => ?_) (fun _ => ?_) | refine yei (fun _ => ?_) (fun _ => ?_) | refine yej (fun _ => ?_) (fun _ => ?_) | refine yek (fun _ => ?_) (fun _ => ?_) | refine yel (fun _ => ?_) (fun _ => ?_)))

theorem f169k {x : TC} {node len : Int} {K : Value → Heap → Prop} (hk : ∀ n : Int, (n = 0 ↔ x.Form node len) → K (.int .i64 n) []) : Op1 (AC tbl 169 [x.v, .int .i64 node, .int .i64 len] []) K := by
  apply AC_wp (F := F169) rfl (by simp [F169]) (.inr rfl)
  unfold F169 TC.v
  cases hb : x.b <;>
  · (repeat' (first | simp only [↓yaa, ↓yab, ↓yac, ↓yad, ↓yae, ↓yaf, ↓yag, ↓yah, ↓yai, ↓ydb, ↓ydc, ↓ydd, ↓yde, ↓ydf, ↓ydg, ↓yao, ↓yap, ↓ydh, ↓ydi, ↓ydj, ↓ydk, ↓ydl, ↓ydm, ↓ydn, ↓ydo, ↓ydp, ↓yax, yay, yaz, yba, ybb, ybc, ybd, ybe, ybf, ybg, ybh, ybi, ybj, ybk, ybl, ybm, ybn, ybo, ybp, ybq, ybr, ybs, ybt, ybu, ybv, ares, tup, ybw, ybx, yby, argsE, dval, aop, ev, evs, evo, evp, fillL, addrOf, intOf?, ybz, yca, ycb, ycc, ycd, yce, ycf, zah, zag, reduceIte, Nat.reduceEqDiff, ycg, ych, yci, ycj, yck, ycl, ycm, ycn, yco, ycp, ycq, ycr, zap, zao, reduceCtorEq, zbb, zbc, zba, zaz, Nat.reduceAdd, Nat.reduceMul, zaq, zar, eqPtr, zae, zaf, zab, zaa, zac, zad, hload, hstore, zal, zam, Nat.reduceAdd, Nat.reduceLeDiff, zbb, zas, zat, one, zau, zaw, zav, splice, zaj, zak, zab, zaa, ycs, yct, ycu, ycv, ycw, ycx, ycy, ycz, zan, zai, zax, zay, and_self, true_and, and_true, lenV, yda, Nat.le_refl, if_true, ydq, ydr, yds, ne_eq, not_true_eq_false, not_false_eq_true, ← decide_not, Decidable.not_not, ydt, ydu, ydz, ydv, ydw, List.drop_zero, eq_self, Bool.false_eq_true, List.getElem?_toArray, yea, yeb, List.nil_append, List.cons_append, Bool.false_and, Int.reduceEq, Int.reduceLT, Int.reduceLE, Int.reduceNe, zbc, zbb, yec, yed, yee, yef, ydx, ydy, f168, hb, tk6, ls6, *] | refine yeg (fun _ => ?_) (fun _ => ?_) | refine yeh (fun _ => ?_) (fun _ => ?_) | refine yei (fun _ => ?_) (fun _ => ?_) | refine yej (fun _ => ?_) (fun _ => ?_) | refine yek (fun _ => ?_) (fun _ => ?_) | refine yel (fun _ => ?_) (fun _ => ?_)))
    all_goals (refine hk _ ?_; clear hk; unfold TC.Form; simp only [hb, and_true, and_false, reduceCtorEq, Int.reduceEq, true_iff, false_iff, not_and, not_or, imp_false]; (try simp only [decide_eq_false_iff_not, decide_eq_true_eq] at *); omega)
theorem f169 (x : TC) (node len : Int) : ∃ n : Int, (n = 0 ↔ x.Form node len) ∧ ∀ H, AC tbl 169 [x.v, .int .i64 node, .int .i64 len] H = some (.int .i64 n, H) := by
  have h : Op1 (AC tbl 169 [x.v, .int .i64 node, .int .i64 len] []) fun v H' => ∃ n : Int, (n = 0 ↔ x.Form node len) ∧ v = .int .i64 n ∧ H' = [] := f169k fun n hn => ⟨n, hn, rfl, rfl⟩
  obtain ⟨v, H', e, n, hn, rfl, rfl⟩ := h
  exact ⟨n, hn, fun H => AC_iso (F := F169) rfl (by simp [F169]) rfl rfl rfl e H⟩

theorem f144 {H : Heap} {x : TC} {t : Tb} {a : Option Addr} {z : Nat} {K : Value → Heap → Prop} (hk : ∀ H' (n : Int), Frm [] H H' → (n = 0 ↔ x.Form t.node t.len) → K (.int .i64 n) H') : Op1 (AC tbl 144 [t.v a z, x.v] H) K := by
  apply AC_wp (F := F144) rfl (by simp [F144]) (.inl rfl)
  unfold F144 TC.v Tb.v
  have f0 : ∀ b c, Frm [] H (H ++ [b] ++ [c]) := fun b c => ((Frm.refl _ _).push b).push c
  cases hb : x.b <;>
  · (repeat' (first | simp only [↓yaa, ↓yab, ↓yac, ↓yad, ↓yae, ↓yaf, ↓yag, ↓yah, ↓yai, ↓ydb, ↓ydc, ↓ydd, ↓yde, ↓ydf, ↓ydg, ↓yao, ↓yap, ↓ydh, ↓ydi, ↓ydj, ↓ydk, ↓ydl, ↓ydm, ↓ydn, ↓ydo, ↓ydp, ↓yax, yay, yaz, yba, ybb, ybc, ybd, ybe, ybf, ybg, ybh, ybi, ybj, ybk, ybl, ybm, ybn, ybo, ybp, ybq, ybr, ybs, ybt, ybu, ybv, ares, tup, ybw, ybx, yby, argsE, dval, aop, ev, evs, evo, evp, fillL, addrOf, intOf?, ybz, yca, ycb, ycc, ycd, yce, ycf, zah, zag, reduceIte, Nat.reduceEqDiff, ycg, ych, yci, ycj, yck, ycl, ycm, ycn, yco, ycp, ycq, ycr, zap, zao, reduceCtorEq, zbb, zbc, zba, zaz, Nat.reduceAdd, Nat.reduceMul, zaq, zar, eqPtr, zae, zaf, zab, zaa, zac, zad, hload, hstore, zal, zam, Nat.reduceAdd, Nat.reduceLeDiff, zbb, zas, zat, one, zau, zaw, zav, splice, zaj, zak, zab, zaa, ycs, yct, ycu, ycv, ycw, ycx, ycy, ycz, zan, zai, zax, zay, and_self, true_and, and_true, lenV, yda, Nat.le_refl, if_true, ydq, ydr, yds, ne_eq, not_true_eq_false, not_false_eq_true, ← decide_not, Decidable.not_not, ydt, ydu, ydz, ydv, ydw, List.drop_zero, eq_self, Bool.false_eq_true, List.getElem?_toArray, yea, yeb, List.nil_append, List.cons_append, Bool.false_and, Int.reduceEq, Int.reduceLT, Int.reduceLE, Int.reduceNe, zbc, zbb, yec, yed, yee, yef, ydx, ydy, hb, tk6, ls6, *] | refine yeg (fun _ => ?_) (fun _ => ?_) | refine yeh (fun _ => ?_) (fun _ => ?_) | refine yei (fun _ => ?_) (fun _ => ?_) | refine yej (fun _ => ?_) (fun _ => ?_) | refine yek (fun _ => ?_) (fun _ => ?_) | refine yel (fun _ => ?_) (fun _ => ?_)))
    all_goals (refine hk _ _ (f0 _ _) ?_; clear hk f0; unfold TC.Form; simp only [hb, and_true, and_false, reduceCtorEq, Int.reduceEq, true_iff, false_iff, not_and, not_or, imp_false]; (try simp only [decide_eq_false_iff_not, decide_eq_true_eq] at *); omega)

theorem f157 (x y : TC) (H : Heap) : ∃ p : Bool, (p = true ↔ x.Lt y) ∧ AC tbl 157 [x.v, y.v] H = some (.bool p, H) := by
  have h : Op1 (AC tbl 157 [x.v, y.v] []) fun v H' => ∃ p : Bool, (p = true ↔ x.Lt y) ∧ v = .bool p ∧ H' = [] := by
    have key : ∀ K : Value → Heap → Prop, (∀ p : Bool, (p = true ↔ x.Lt y) → K (.bool p) []) → Op1 (AC tbl 157 [x.v, y.v] []) K := by
      intro K hk
      apply AC_wp (F := F157) rfl (by simp [F157]) (.inr rfl)
      unfold F157 TC.v
      (repeat' (first | simp only [↓yaa, ↓yab, ↓yac, ↓yad, ↓yae, ↓yaf, ↓yag, ↓yah, ↓yai, ↓ydb, ↓ydc, ↓ydd, ↓yde, ↓ydf, ↓ydg, ↓yao, ↓yap, ↓ydh, ↓ydi, ↓ydj, ↓ydk, ↓ydl, ↓ydm, ↓ydn, ↓ydo, ↓ydp, ↓yax, yay, yaz, yba, ybb, ybc, ybd, ybe, ybf, ybg, ybh, ybi, ybj, ybk, ybl, ybm, ybn, ybo, ybp, ybq, ybr, ybs, ybt, ybu, ybv, ares, tup, ybw, ybx, yby, argsE, dval, aop, ev, evs, evo, evp, fillL, addrOf, intOf?, ybz, yca, ycb, ycc, ycd, yce, ycf, zah, zag, reduceIte, Nat.reduceEqDiff, ycg, ych, yci, ycj, yck, ycl, ycm, ycn, yco, ycp, ycq, ycr, zap, zao, reduceCtorEq, zbb, zbc, zba, zaz, Nat.reduceAdd, Nat.reduceMul, zaq, zar, eqPtr, zae, zaf, zab, zaa, zac, zad, hload, hstore, zal, zam, Nat.reduceAdd, Nat.reduceLeDiff, zbb, zas, zat, one, zau, zaw, zav, splice, zaj, zak, zab, zaa, ycs, yct, ycu, ycv, ycw, ycx, ycy, ycz, zan, zai, zax, zay, and_self, true_and, and_true, lenV, yda, Nat.le_refl, if_true, ydq, ydr, yds, ne_eq, not_true_eq_false, not_false_eq_true, ← decide_not, Decidable.not_not, ydt, ydu, ydz, ydv, ydw, List.drop_zero, eq_self, Bool.false_eq_true, List.getElem?_toArray, yea, yeb, List.nil_append, List.cons_append, Bool.false_and, Int.reduceEq, Int.reduceLT, Int.reduceLE, Int.reduceNe, zbc, zbb, yec, yed, yee, yef, ydx, ydy, tk6, ls6, *] | refine yeg (fun _ => ?_) (fun _ => ?_) | refine yeh (fun _ => ?_) (fun _ => ?_) | refine yei (fun _ => ?_) (fun _ => ?_) | refine yej (fun _ => ?_) (fun _ => ?_) | refine yek (fun _ => ?_) (fun _ => ?_) | refine yel (fun _ => ?_) (fun _ => ?_)))
      all_goals (refine hk _ ?_; clear hk; unfold TC.Lt; simp only [decide_eq_true_eq, reduceCtorEq, true_iff, false_iff]; (try simp only [decide_eq_false_iff_not, decide_eq_true_eq] at *); omega)
    exact key _ fun p hp => ⟨p, hp, rfl, rfl⟩
  obtain ⟨v, H', e, p, hp, rfl, rfl⟩ := h
  exact ⟨p, hp, AC_iso (F := F157) rfl (by simp [F157]) rfl rfl rfl e H⟩

def cmpI (a b : Int) : Int := if a < b then -1 else if b < a then 1 else 0
theorem f171 (x : Int) (H : Heap) : AC tbl 171 [.int .i64 x] H = some (.bool false, H) := by
  refine AC_iso (F := F171) rfl (by simp [F171]) rfl rfl rfl ?_ H
  apply AC_eq
  apply AC_wp (F := F171) rfl (by simp [F171]) (.inr rfl)
  unfold F171
  (repeat' (first | simp only [↓yaa, ↓yab, ↓yac, ↓yad, ↓yae, ↓yaf, ↓yag, ↓yah, ↓yai, ↓ydb, ↓ydc, ↓ydd, ↓yde, ↓ydf, ↓ydg, ↓yao, ↓yap, ↓ydh, ↓ydi, ↓ydj, ↓ydk, ↓ydl, ↓ydm, ↓ydn, ↓ydo, ↓ydp, ↓yax, yay, yaz, yba, ybb, ybc, ybd, ybe, ybf, ybg, ybh, ybi, ybj, ybk, ybl, ybm, ybn, ybo, ybp, ybq, ybr, ybs, ybt, ybu, ybv, ares, tup, ybw, ybx, yby, argsE, dval, aop, ev, evs, evo, evp, fillL, addrOf, intOf?, ybz, yca, ycb, ycc, ycd, yce, ycf, zah, zag, reduceIte, Nat.reduceEqDiff, ycg, ych, yci, ycj, yck, ycl, ycm, ycn, yco, ycp, ycq, ycr, zap, zao, reduceCtorEq, zbb, zbc, zba, zaz, Nat.reduceAdd, Nat.reduceMul, zaq, zar, eqPtr, zae, zaf, zab, zaa, zac, zad, hload, hstore, zal, zam, Nat.reduceAdd, Nat.reduceLeDiff, zbb, zas, zat, one, zau, zaw, zav, splice, zaj, zak, zab, zaa, ycs, yct, ycu, ycv, ycw, ycx, ycy, ycz, zan, zai, zax, zay, and_self, true_and, and_true, lenV, yda, Nat.le_refl, if_true, ydq, ydr, yds, ne_eq, not_true_eq_false, not_false_eq_true, ← decide_not, Decidable.not_not, ydt, ydu, ydz, ydv, ydw, List.drop_zero, eq_self, Bool.false_eq_true, List.getElem?_toArray, yea, yeb, List.nil_append, List.cons_append, Bool.false_and, Int.reduceEq, Int.reduceLT, Int.reduceLE, Int.reduceNe, zbc, zbb, yec, yed, yee, yef, ydx, ydy, *] | refine yeg (fun _ => ?_) (fun _ => ?_) | refine yeh (fun _ => ?_) (fun _ => ?_) | refine yei (fun _ => ?_) (fun _ => ?_) | refine yej (fun _ => ?_) (fun _ => ?_) | refine yek (fun _ => ?_) (fun _ => ?_) | refine yel (fun _ => ?_) (fun _ => ?_)))
theorem f160 (x y : Int) (H : Heap) : AC tbl 160 [.int .i64 x, .int .i64 y] H = some (.int .i64 (cmpI x y), H) := by
  refine AC_iso (F := F160) rfl (by simp [F160]) rfl rfl rfl ?_ H
  apply AC_eq
  apply AC_wp (F := F160) rfl (by simp [F160]) (.inr rfl)
  unfold F160
  unfold cmpI
  by_cases h1 : x < y
  · simp only [↓yaa, ↓yab, ↓yac, ↓yad, ↓yae, ↓yaf, ↓yag, ↓yah, ↓yai, ↓ydb, ↓ydc, ↓ydd, ↓yde, ↓ydf, ↓ydg, ↓yao, ↓yap, ↓ydh, ↓ydi, ↓ydj, ↓ydk, ↓ydl, ↓ydm, ↓ydn, ↓ydo, ↓ydp, ↓yax, yay, yaz, yba, ybb, ybc, ybd, ybe, ybf, ybg, ybh, ybi, ybj, ybk, ybl, ybm, ybn, ybo, ybp, ybq, ybr, ybs, ybt, ybu, ybv, ares, tup, ybw, ybx, yby, argsE, dval, aop, ev, evs, evo, evp, fillL, addrOf, intOf?, ybz, yca, ycb, ycc, ycd, yce, ycf, zah, zag, reduceIte, Nat.reduceEqDiff, ycg, ych, yci, ycj, yck, ycl, ycm, ycn, yco, ycp, ycq, ycr, zap, zao, reduceCtorEq, zbb, zbc, zba, zaz, Nat.reduceAdd, Nat.reduceMul, zaq, zar, eqPtr, zae, zaf, zab, zaa, zac, zad, hload, hstore, zal, zam, Nat.reduceAdd, Nat.reduceLeDiff, zbb, zas, zat, one, zau, zaw, zav, splice, zaj, zak, zab, zaa, ycs, yct, ycu, ycv, ycw, ycx, ycy, ycz, zan, zai, zax, zay, and_self, true_and, and_true, lenV, yda, Nat.le_refl, if_true, ydq, ydr, yds, ne_eq, not_true_eq_false, not_false_eq_true, ← decide_not, Decidable.not_not, ydt, ydu, ydz, ydv, ydw, List.drop_zero, eq_self, Bool.false_eq_true, List.getElem?_toArray, yea, yeb, List.nil_append, List.cons_append, Bool.false_and, Int.reduceEq, Int.reduceLT, Int.reduceLE, Int.reduceNe, zbc, zbb, yec, yed, yee, yef, ydx, ydy, f171, h1]
  · by_cases h2 : y < x <;> simp only [↓yaa, ↓yab, ↓yac, ↓yad, ↓yae, ↓yaf, ↓yag, ↓yah, ↓yai, ↓ydb, ↓ydc, ↓ydd, ↓yde, ↓ydf, ↓ydg, ↓yao, ↓yap, ↓ydh, ↓ydi, ↓ydj, ↓ydk, ↓ydl, ↓ydm, ↓ydn, ↓ydo, ↓ydp, ↓yax, yay, yaz, yba, ybb, ybc, ybd, ybe, ybf, ybg, ybh, ybi, ybj, ybk, ybl, ybm, ybn, ybo, ybp, ybq, ybr, ybs, ybt, ybu, ybv, ares, tup, ybw, ybx, yby, argsE, dval, aop, ev, evs, evo, evp, fillL, addrOf, intOf?, ybz, yca, ycb, ycc, ycd, yce, ycf, zah, zag, reduceIte, Nat.reduceEqDiff, ycg, ych, yci, ycj, yck, ycl, ycm, ycn, yco, ycp, ycq, ycr, zap, zao, reduceCtorEq, zbb, zbc, zba, zaz, Nat.reduceAdd, Nat.reduceMul, zaq, zar, eqPtr, zae, zaf, zab, zaa, zac, zad, hload, hstore, zal, zam, Nat.reduceAdd, Nat.reduceLeDiff, zbb, zas, zat, one, zau, zaw, zav, splice, zaj, zak, zab, zaa, ycs, yct, ycu, ycv, ycw, ycx, ycy, ycz, zan, zai, zax, zay, and_self, true_and, and_true, lenV, yda, Nat.le_refl, if_true, ydq, ydr, yds, ne_eq, not_true_eq_false, not_false_eq_true, ← decide_not, Decidable.not_not, ydt, ydu, ydz, ydv, ydw, List.drop_zero, eq_self, Bool.false_eq_true, List.getElem?_toArray, yea, yeb, List.nil_append, List.cons_append, Bool.false_and, Int.reduceEq, Int.reduceLT, Int.reduceLE, Int.reduceNe, zbc, zbb, yec, yed, yee, yef, ydx, ydy, f171, h1, h2]
theorem f175 {H : Heap} {b : Nat} {w : Bool} {x y : Int} (hb : hget H b = some ⟨w, [.int .i64 x, .int .i64 y]⟩) : AC tbl 175 [.slice (some ⟨b, 0, none⟩) 2 1] H = some (.int .i64 (if x ≠ 0 then x else y), H) := by
  apply AC_eq
  apply AC_wp (F := F175) rfl (by simp [F175]) (.inl rfl)
  unfold F175
  have w1 : IntKind.i64.wrap (0 + 1) = 1 := by decide
  have w2 : IntKind.i64.wrap (1 + 1) = 2 := by decide
  have c2 : ((2 : Nat) : Int) = 2 := rfl
  have n0 : (0 : Int).toNat = 0 := rfl
  have n1 : (1 : Int).toNat = 1 := rfl
  simp only [↓yaa, ↓yab, ↓yac, ↓yad, ↓yae, ↓yaf, ↓yag, ↓yah, ↓yai, ↓ydb, ↓ydc, ↓ydd, ↓yde, ↓ydf, ↓ydg, ↓yao, ↓yap, ↓ydh, ↓ydi, ↓ydj, ↓ydk, ↓ydl, ↓ydm, ↓ydn, ↓ydo, ↓ydp, ↓yax, yay, yaz, yba, ybb, ybc, ybd, ybe, ybf, ybg, ybh, ybi, ybj, ybk, ybl, ybm, ybn, ybo, ybp, ybq, ybr, ybs, ybt, ybu, ybv, ares, tup, ybw, ybx, yby, argsE, dval, aop, ev, evs, evo, evp, fillL, addrOf, intOf?, ybz, yca, ycb, ycc, ycd, yce, ycf, zah, zag, reduceIte, Nat.reduceEqDiff, ycg, ych, yci, ycj, yck, ycl, ycm, ycn, yco, ycp, ycq, ycr, zap, zao, reduceCtorEq, zbb, zbc, zba, zaz, Nat.reduceAdd, Nat.reduceMul, zaq, zar, eqPtr, zae, zaf, zab, zaa, zac, zad, hload, hstore, zal, zam, Nat.reduceAdd, Nat.reduceLeDiff, zbb, zas, zat, one, zau, zaw, zav, splice, zaj, zak, zab, zaa, ycs, yct, ycu, ycv, ycw, ycx, ycy, ycz, zan, zai, zax, zay, and_self, true_and, and_true, lenV, yda, Nat.le_refl, if_true, ydq, ydr, yds, ne_eq, not_true_eq_false, not_false_eq_true, ← decide_not, Decidable.not_not, ydt, ydu, ydz, ydv, ydw, List.drop_zero, eq_self, Bool.false_eq_true, List.getElem?_toArray, yea, yeb, List.nil_append, List.cons_append, Bool.false_and, Int.reduceEq, Int.reduceLT, Int.reduceLE, Int.reduceNe, zbc, zbb, yec, yed, yee, yef, ydx, ydy, c2]
  rw [AW_loop]
  by_cases h1 : x = 0
  · simp only [↓yaa, ↓yab, ↓yac, ↓yad, ↓yae, ↓yaf, ↓yag, ↓yah, ↓yai, ↓ydb, ↓ydc, ↓ydd, ↓yde, ↓ydf, ↓ydg, ↓yao, ↓yap, ↓ydh, ↓ydi, ↓ydj, ↓ydk, ↓ydl, ↓ydm, ↓ydn, ↓ydo, ↓ydp, ↓yax, yay, yaz, yba, ybb, ybc, ybd, ybe, ybf, ybg, ybh, ybi, ybj, ybk, ybl, ybm, ybn, ybo, ybp, ybq, ybr, ybs, ybt, ybu, ybv, ares, tup, ybw, ybx, yby, argsE, dval, aop, ev, evs, evo, evp, fillL, addrOf, intOf?, ybz, yca, ycb, ycc, ycd, yce, ycf, zah, zag, reduceIte, Nat.reduceEqDiff, ycg, ych, yci, ycj, yck, ycl, ycm, ycn, yco, ycp, ycq, ycr, zap, zao, reduceCtorEq, zbb, zbc, zba, zaz, Nat.reduceAdd, Nat.reduceMul, zaq, zar, eqPtr, zae, zaf, zab, zaa, zac, zad, hload, hstore, zal, zam, Nat.reduceAdd, Nat.reduceLeDiff, zbb, zas, zat, one, zau, zaw, zav, splice, zaj, zak, zab, zaa, ycs, yct, ycu, ycv, ycw, ycx, ycy, ycz, zan, zai, zax, zay, and_self, true_and, and_true, lenV, yda, Nat.le_refl, if_true, ydq, ydr, yds, ne_eq, not_true_eq_false, not_false_eq_true, ← decide_not, Decidable.not_not, ydt, ydu, ydz, ydv, ydw, List.drop_zero, eq_self, Bool.false_eq_true, List.getElem?_toArray, yea, yeb, List.nil_append, List.cons_append, Bool.false_and, Int.reduceEq, Int.reduceLT, Int.reduceLE, Int.reduceNe, zbc, zbb, yec, yed, yee, yef, ydx, ydy, hb, h1, w1, c2, n0, n1]
    rw [AW_loop]
    by_cases h2 : y = 0
    · simp only [↓yaa, ↓yab, ↓yac, ↓yad, ↓yae, ↓yaf, ↓yag, ↓yah, ↓yai, ↓ydb, ↓ydc, ↓ydd, ↓yde, ↓ydf, ↓ydg, ↓yao, ↓yap, ↓ydh, ↓ydi, ↓ydj, ↓ydk, ↓ydl, ↓ydm, ↓ydn, ↓ydo, ↓ydp, ↓yax, yay, yaz, yba, ybb, ybc, ybd, ybe, ybf, ybg, ybh, ybi, ybj, ybk, ybl, ybm, ybn, ybo, ybp, ybq, ybr, ybs, ybt, ybu, ybv, ares, tup, ybw, ybx, yby, argsE, dval, aop, ev, evs, evo, evp, fillL, addrOf, intOf?, ybz, yca, ycb, ycc, ycd, yce, ycf, zah, zag, reduceIte, Nat.reduceEqDiff, ycg, ych, yci, ycj, yck, ycl, ycm, ycn, yco, ycp, ycq, ycr, zap, zao, reduceCtorEq, zbb, zbc, zba, zaz, Nat.reduceAdd, Nat.reduceMul, zaq, zar, eqPtr, zae, zaf, zab, zaa, zac, zad, hload, hstore, zal, zam, Nat.reduceAdd, Nat.reduceLeDiff, zbb, zas, zat, one, zau, zaw, zav, splice, zaj, zak, zab, zaa, ycs, yct, ycu, ycv, ycw, ycx, ycy, ycz, zan, zai, zax, zay, and_self, true_and, and_true, lenV, yda, Nat.le_refl, if_true, ydq, ydr, yds, ne_eq, not_true_eq_false, not_false_eq_true, ← decide_not, Decidable.not_not, ydt, ydu, ydz, ydv, ydw, List.drop_zero, eq_self, Bool.false_eq_true, List.getElem?_toArray, yea, yeb, List.nil_append, List.cons_append, Bool.false_and, Int.reduceEq, Int.reduceLT, Int.reduceLE, Int.reduceNe, zbc, zbb, yec, yed, yee, yef, ydx, ydy, hb, h1, h2, w1, w2, c2, n0, n1]
      rw [AW_loop]
      simp only [↓yaa, ↓yab, ↓yac, ↓yad, ↓yae, ↓yaf, ↓yag, ↓yah, ↓yai, ↓ydb, ↓ydc, ↓ydd, ↓yde, ↓ydf, ↓ydg, ↓yao, ↓yap, ↓ydh, ↓ydi, ↓ydj, ↓ydk, ↓ydl, ↓ydm, ↓ydn, ↓ydo, ↓ydp, ↓yax, yay, yaz, yba, ybb, ybc, ybd, ybe, ybf, ybg, ybh, ybi, ybj, ybk, ybl, ybm, ybn, ybo, ybp, ybq, ybr, ybs, ybt, ybu, ybv, ares, tup, ybw, ybx, yby, argsE, dval, aop, ev, evs, evo, evp, fillL, addrOf, intOf?, ybz, yca, ycb, ycc, ycd, yce, ycf, zah, zag, reduceIte, Nat.reduceEqDiff, ycg, ych, yci, ycj, yck, ycl, ycm, ycn, yco, ycp, ycq, ycr, zap, zao, reduceCtorEq, zbb, zbc, zba, zaz, Nat.reduceAdd, Nat.reduceMul, zaq, zar, eqPtr, zae, zaf, zab, zaa, zac, zad, hload, hstore, zal, zam, Nat.reduceAdd, Nat.reduceLeDiff, zbb, zas, zat, one, zau, zaw, zav, splice, zaj, zak, zab, zaa, ycs, yct, ycu, ycv, ycw, ycx, ycy, ycz, zan, zai, zax, zay, and_self, true_and, and_true, lenV, yda, Nat.le_refl, if_true, ydq, ydr, yds, ne_eq, not_true_eq_false, not_false_eq_true, ← decide_not, Decidable.not_not, ydt, ydu, ydz, ydv, ydw, List.drop_zero, eq_self, Bool.false_eq_true, List.getElem?_toArray, yea, yeb, List.nil_append, List.cons_append, Bool.false_and, Int.reduceEq, Int.reduceLT, Int.reduceLE, Int.reduceNe, zbc, zbb, yec, yed, yee, yef, ydx, ydy, hb, h1, h2, w1, w2, c2, n0, n1]
    · simp only [↓yaa, ↓yab, ↓yac, ↓yad, ↓yae, ↓yaf, ↓yag, ↓yah, ↓yai, ↓ydb, ↓ydc, ↓ydd, ↓yde, ↓ydf, ↓ydg, ↓yao, ↓yap, ↓ydh, ↓ydi, ↓ydj, ↓ydk, ↓ydl, ↓ydm, ↓ydn, ↓ydo, ↓ydp, ↓yax, yay, yaz, yba, ybb, ybc, ybd, ybe, ybf, ybg, ybh, ybi, ybj, ybk, ybl, ybm, ybn, ybo, ybp, ybq, ybr, ybs, ybt, ybu, ybv, ares, tup, ybw, ybx, yby, argsE, dval, aop, ev, evs, evo, evp, fillL, addrOf, intOf?, ybz, yca, ycb, ycc, ycd, yce, ycf, zah, zag, reduceIte, Nat.reduceEqDiff, ycg, ych, yci, ycj, yck, ycl, ycm, ycn, yco, ycp, ycq, ycr, zap, zao, reduceCtorEq, zbb, zbc, zba, zaz, Nat.reduceAdd, Nat.reduceMul, zaq, zar, eqPtr, zae, zaf, zab, zaa, zac, zad, hload, hstore, zal, zam, Nat.reduceAdd, Nat.reduceLeDiff, zbb, zas, zat, one, zau, zaw, zav, splice, zaj, zak, zab, zaa, ycs, yct, ycu, ycv, ycw, ycx, ycy, ycz, zan, zai, zax, zay, and_self, true_and, and_true, lenV, yda, Nat.le_refl, if_true, ydq, ydr, yds, ne_eq, not_true_eq_false, not_false_eq_true, ← decide_not, Decidable.not_not, ydt, ydu, ydz, ydv, ydw, List.drop_zero, eq_self, Bool.false_eq_true, List.getElem?_toArray, yea, yeb, List.nil_append, List.cons_append, Bool.false_and, Int.reduceEq, Int.reduceLT, Int.reduceLE, Int.reduceNe, zbc, zbb, yec, yed, yee, yef, ydx, ydy, hb, h1, h2, w1, w2, c2, n0, n1]
  · simp only [↓yaa, ↓yab, ↓yac, ↓yad, ↓yae, ↓yaf, ↓yag, ↓yah, ↓yai, ↓ydb, ↓ydc, ↓ydd, ↓yde, ↓ydf, ↓ydg, ↓yao, ↓yap, ↓ydh, ↓ydi, ↓ydj, ↓ydk, ↓ydl, ↓ydm, ↓ydn, ↓ydo, ↓ydp, ↓yax, yay, yaz, yba, ybb, ybc, ybd, ybe, ybf, ybg, ybh, ybi, ybj, ybk, ybl, ybm, ybn, ybo, ybp, ybq, ybr, ybs, ybt, ybu, ybv, ares, tup, ybw, ybx, yby, argsE, dval, aop, ev, evs, evo, evp, fillL, addrOf, intOf?, ybz, yca, ycb, ycc, ycd, yce, ycf, zah, zag, reduceIte, Nat.reduceEqDiff, ycg, ych, yci, ycj, yck, ycl, ycm, ycn, yco, ycp, ycq, ycr, zap, zao, reduceCtorEq, zbb, zbc, zba, zaz, Nat.reduceAdd, Nat.reduceMul, zaq, zar, eqPtr, zae, zaf, zab, zaa, zac, zad, hload, hstore, zal, zam, Nat.reduceAdd, Nat.reduceLeDiff, zbb, zas, zat, one, zau, zaw, zav, splice, zaj, zak, zab, zaa, ycs, yct, ycu, ycv, ycw, ycx, ycy, ycz, zan, zai, zax, zay, and_self, true_and, and_true, lenV, yda, Nat.le_refl, if_true, ydq, ydr, yds, ne_eq, not_true_eq_false, not_false_eq_true, ← decide_not, Decidable.not_not, ydt, ydu, ydz, ydv, ydw, List.drop_zero, eq_self, Bool.false_eq_true, List.getElem?_toArray, yea, yeb, List.nil_append, List.cons_append, Bool.false_and, Int.reduceEq, Int.reduceLT, Int.reduceLE, Int.reduceNe, zbc, zbb, yec, yed, yee, yef, ydx, ydy, hb, h1, w1, c2, n0, n1]
theorem f159 (x : TC) (k : Int) (H : Heap) : AC tbl 159 [x.v, .int .i64 k] H = some (.int .i64 (cmpI x.s k), H) := by
  refine AC_iso (F := F159) rfl (by simp [F159]) rfl rfl rfl ?_ H
  apply AC_eq
  apply AC_wp (F := F159) rfl (by simp [F159]) (.inr rfl)
  unfold F159 TC.v
  (repeat' (first | simp only [↓yaa, ↓yab, ↓yac, ↓yad, ↓yae, ↓yaf, ↓yag, ↓yah, ↓yai, ↓ydb, ↓ydc, ↓ydd, ↓yde, ↓ydf, ↓ydg, ↓yao, ↓yap, ↓ydh, ↓ydi, ↓ydj, ↓ydk, ↓ydl, ↓ydm, ↓ydn, ↓ydo, ↓ydp, ↓yax, yay, yaz, yba, ybb, ybc, ybd, ybe, ybf, ybg, ybh, ybi, ybj, ybk, ybl, ybm, ybn, ybo, ybp, ybq, ybr, ybs, ybt, ybu, ybv, ares, tup, ybw, ybx, yby, argsE, dval, aop, ev, evs, evo, evp, fillL, addrOf, intOf?, ybz, yca, ycb, ycc, ycd, yce, ycf, zah, zag, reduceIte, Nat.reduceEqDiff, ycg, ych, yci, ycj, yck, ycl, ycm, ycn, yco, ycp, ycq, ycr, zap, zao, reduceCtorEq, zbb, zbc, zba, zaz, Nat.reduceAdd, Nat.reduceMul, zaq, zar, eqPtr, zae, zaf, zab, zaa, zac, zad, hload, hstore, zal, zam, Nat.reduceAdd, Nat.reduceLeDiff, zbb, zas, zat, one, zau, zaw, zav, splice, zaj, zak, zab, zaa, ycs, yct, ycu, ycv, ycw, ycx, ycy, ycz, zan, zai, zax, zay, and_self, true_and, and_true, lenV, yda, Nat.le_refl, if_true, ydq, ydr, yds, ne_eq, not_true_eq_false, not_false_eq_true, ← decide_not, Decidable.not_not, ydt, ydu, ydz, ydv, ydw, List.drop_zero, eq_self, Bool.false_eq_true, List.getElem?_toArray, yea, yeb, List.nil_append, List.cons_append, Bool.false_and, Int.reduceEq, Int.reduceLT, Int.reduceLE, Int.reduceNe, zbc, zbb, yec, yed, yee, yef, ydx, ydy, f160, *] | refine yeg (fun _ => ?_) (fun _ => ?_) | refine yeh (fun _ => ?_) (fun _ => ?_) | refine yei (fun _ => ?_) (fun _ => ?_) | refine yej (fun _ => ?_) (fun _ => ?_) | refine yek (fun _ => ?_) (fun _ => ?_) | refine yel (fun _ => ?_) (fun _ => ?_)))
theorem f170_0 (x y : TC) : AC tbl 170 [x.v, y.v] [] = some (.int .i64 (if cmpI x.s y.s ≠ 0 then cmpI x.s y.s else cmpI x.w y.w), []) := by
  apply AC_eq
  apply AC_wp (F := F170) rfl (by simp [F170]) (.inr rfl)
  unfold F170 TC.v
  have hc := @f175 ([some (⟨true, [.int .i64 x.s, .int .i64 x.c, .int .i64 x.w, .bool x.b, .int .i64 x.p, .int .i64 x.n]⟩ : Blk)] ++ [some (⟨true, [.int .i64 y.s, .int .i64 y.c, .int .i64 y.w, .bool y.b, .int .i64 y.p, .int .i64 y.n]⟩ : Blk)] ++ [some (⟨true, [.int .i64 (cmpI x.s y.s), .int .i64 (cmpI x.w y.w)]⟩ : Blk)]) 2 true (cmpI x.s y.s) (cmpI x.w y.w) rfl
  simp only [List.nil_append, List.cons_append] at hc
  simp only [↓yaa, ↓yab, ↓yac, ↓yad, ↓yae, ↓yaf, ↓yag, ↓yah, ↓yai, ↓ydb, ↓ydc, ↓ydd, ↓yde, ↓ydf, ↓ydg, ↓yao, ↓yap, ↓ydh, ↓ydi, ↓ydj, ↓ydk, ↓ydl, ↓ydm, ↓ydn, ↓ydo, ↓ydp, ↓yax, yay, yaz, yba, ybb, ybc, ybd, ybe, ybf, ybg, ybh, ybi, ybj, ybk, ybl, ybm, ybn, ybo, ybp, ybq, ybr, ybs, ybt, ybu, ybv, ares, tup, ybw, ybx, yby, argsE, dval, aop, ev, evs, evo, evp, fillL, addrOf, intOf?, ybz, yca, ycb, ycc, ycd, yce, ycf, zah, zag, reduceIte, Nat.reduceEqDiff, ycg, ych, yci, ycj, yck, ycl, ycm, ycn, yco, ycp, ycq, ycr, zap, zao, reduceCtorEq, zbb, zbc, zba, zaz, Nat.reduceAdd, Nat.reduceMul, zaq, zar, eqPtr, zae, zaf, zab, zaa, zac, zad, hload, hstore, zal, zam, Nat.reduceAdd, Nat.reduceLeDiff, zbb, zas, zat, one, zau, zaw, zav, splice, zaj, zak, zab, zaa, ycs, yct, ycu, ycv, ycw, ycx, ycy, ycz, zan, zai, zax, zay, and_self, true_and, and_true, lenV, yda, Nat.le_refl, if_true, ydq, ydr, yds, ne_eq, not_true_eq_false, not_false_eq_true, ← decide_not, Decidable.not_not, ydt, ydu, ydz, ydv, ydw, List.drop_zero, eq_self, Bool.false_eq_true, List.getElem?_toArray, yea, yeb, List.nil_append, List.cons_append, Bool.false_and, Int.reduceEq, Int.reduceLT, Int.reduceLE, Int.reduceNe, zbc, zbb, yec, yed, yee, yef, ydx, ydy, f160, hc]
theorem f170 (x y : TC) : ∃ n : Int, (0 ≤ n ↔ ¬ x.Lt y) ∧ ∀ H, AC tbl 170 [x.v, y.v] H = some (.int .i64 n, H) := by
  refine ⟨_, ?_, fun H => AC_iso (F := F170) rfl (by simp [F170]) rfl rfl rfl (f170_0 x y) H⟩
  unfold cmpI TC.Lt
  repeat' split
  all_goals omega

theorem f138 (x : Int) (H : Heap) : ∃ p : Bool, AC tbl 138 [.int .i64 x] H = some (.bool p, H) := by
  have h : Op1 (AC tbl 138 [.int .i64 x] []) fun v H' => ∃ p : Bool, v = .bool p ∧ H' = [] := by
    have key : ∀ K : Value → Heap → Prop, (∀ p : Bool, K (.bool p) []) → Op1 (AC tbl 138 [.int .i64 x] []) K := by
      intro K hk
      apply AC_wp (F := F138) rfl (by simp [F138]) (.inr rfl)
      unfold F138
      (repeat' (first | simp only [↓yaa, ↓yab, ↓yac, ↓yad, ↓yae, ↓yaf, ↓yag, ↓yah, ↓yai, ↓ydb, ↓ydc, ↓ydd, ↓yde, ↓ydf, ↓ydg, ↓yao, ↓yap, ↓ydh, ↓ydi, ↓ydj, ↓ydk, ↓ydl, ↓ydm, ↓ydn, ↓ydo, ↓ydp, ↓yax, yay, yaz, yba, ybb, ybc, ybd, ybe, ybf, ybg, ybh, ybi, ybj, ybk, ybl, ybm, ybn, ybo, ybp, ybq, ybr, ybs, ybt, ybu, ybv, ares, tup, ybw, ybx, yby, argsE, dval, aop, ev, evs, evo, evp, fillL, addrOf, intOf?, ybz, yca, ycb, ycc, ycd, yce, ycf, zah, zag, reduceIte, Nat.reduceEqDiff, ycg, ych, yci, ycj, yck, ycl, ycm, ycn, yco, ycp, ycq, ycr, zap, zao, reduceCtorEq, zbb, zbc, zba, zaz, Nat.reduceAdd, Nat.reduceMul, zaq, zar, eqPtr, zae, zaf, zab, zaa, zac, zad, hload, hstore, zal, zam, Nat.reduceAdd, Nat.reduceLeDiff, zbb, zas, zat, one, zau, zaw, zav, splice, zaj, zak, zab, zaa, ycs, yct, ycu, ycv, ycw, ycx, ycy, ycz, zan, zai, zax, zay, and_self, true_and, and_true, lenV, yda, Nat.le_refl, if_true, ydq, ydr, yds, ne_eq, not_true_eq_false, not_false_eq_true, ← decide_not, Decidable.not_not, ydt, ydu, ydz, ydv, ydw, List.drop_zero, eq_self, Bool.false_eq_true, List.getElem?_toArray, yea, yeb, List.nil_append, List.cons_append, Bool.false_and, Int.reduceEq, Int.reduceLT, Int.reduceLE, Int.reduceNe, zbc, zbb, yec, yed, yee, yef, ydx, ydy, *] | refine yeg (fun _ => ?_) (fun _ => ?_) | refine yeh (fun _ => ?_) (fun _ => ?_) | refine yei (fun _ => ?_) (fun _ => ?_) | refine yej (fun _ => ?_) (fun _ => ?_) | refine yek (fun _ => ?_) (fun _ => ?_) | refine yel (fun _ => ?_) (fun _ => ?_)))
    exact key _ fun p => ⟨p, rfl, rfl⟩
  obtain ⟨v, H', e, p, rfl, rfl⟩ := h
  exact ⟨p, AC_iso (F := F138) rfl (by simp [F138]) rfl rfl rfl e H⟩
theorem f115 {H : Heap} {t : Tb} {a : Option Addr} {z : Nat} {K : Value → Heap → Prop} (hk : ∀ H' (p : Bool), Frm [] H H' → K (.bool p) H') : Op1 (AC tbl 115 [t.v a z] H) K := by
  apply AC_wp (F := F115) rfl (by simp [F115]) (.inl rfl)
  unfold F115 Tb.v
  obtain ⟨p, hp⟩ := f138 (t.cs.length : Int) (H ++ [some ⟨true, [.int .i64 t.node, .int .i64 t.len, .slice a t.cs.length z]⟩])
  have f0 : ∀ b, Frm [] H (H ++ [b]) := fun b => (Frm.refl _ _).push b
  cases p <;>
  · (repeat' (first | simp only [↓yaa, ↓yab, ↓yac, ↓yad, ↓yae, ↓yaf, ↓yag, ↓yah, ↓yai, ↓ydb, ↓ydc, ↓ydd, ↓yde, ↓ydf, ↓ydg, ↓yao, ↓yap, ↓ydh, ↓ydi, ↓ydj, ↓ydk, ↓ydl, ↓ydm, ↓ydn, ↓ydo, ↓ydp, ↓yax, yay, yaz, yba, ybb, ybc, ybd, ybe, ybf, ybg, ybh, ybi, ybj, ybk, ybl, ybm, ybn, ybo, ybp, ybq, ybr, ybs, ybt, ybu, ybv, ares, tup, ybw, ybx, yby, argsE, dval, aop, ev, evs, evo, evp, fillL, addrOf, intOf?, ybz, yca, ycb, ycc, ycd, yce, ycf, zah, zag, reduceIte, Nat.reduceEqDiff, ycg, ych, yci, ycj, yck, ycl, ycm, ycn, yco, ycp, ycq, ycr, zap, zao, reduceCtorEq, zbb, zbc, zba, zaz, Nat.reduceAdd, Nat.reduceMul, zaq, zar, eqPtr, zae, zaf, zab, zaa, zac, zad, hload, hstore, zal, zam, Nat.reduceAdd, Nat.reduceLeDiff, zbb, zas, zat, one, zau, zaw, zav, splice, zaj, zak, zab, zaa, ycs, yct, ycu, ycv, ycw, ycx, ycy, ycz, zan, zai, zax, zay, and_self, true_and, and_true, lenV, yda, Nat.le_refl, if_true, ydq, ydr, yds, ne_eq, not_true_eq_false, not_false_eq_true, ← decide_not, Decidable.not_not, ydt, ydu, ydz, ydv, ydw, List.drop_zero, eq_self, Bool.false_eq_true, List.getElem?_toArray, yea, yeb, List.nil_append, List.cons_append, Bool.false_and, Int.reduceEq, Int.reduceLT, Int.reduceLE, Int.reduceNe, zbc, zbb, yec, yed, yee, yef, ydx, ydy, hp, *] | refine yeg (fun _ => ?_) (fun _ => ?_) | refine yeh (fun _ => ?_) (fun _ => ?_) | refine yei (fun _ => ?_) (fun _ => ?_) | refine yej (fun _ => ?_) (fun _ => ?_) | refine yek (fun _ => ?_) (fun _ => ?_) | refine yel (fun _ => ?_) (fun _ => ?_)))
    all_goals exact hk _ _ (f0 _)

end Go.Proofs.Ytejcabdejoameaa.AI

/- Tables that are right. -/
set_option linter.unusedSimpArgs false
set_option linter.unusedVariables false
set_option maxHeartbeats 4000000
namespace Go.Proofs.Ytejcabdejoameaa.AI
open Go

theorem f155 {H : Heap} {t : Tb} {a : Option Addr} {z : Nat} (h : TI H a z t.cs) {K : Value → Heap → Prop} (hk : ∀ H' (n : Int), Frm [] H H' → (n = 0 ↔ t.Ok) → K (.int .i64 n) H') : Op1 (AC tbl 155 [t.v a z] H) K := by
  apply AC_wp (F := F155) rfl (by simp [F155]) (.inl rfl)
  have hg : hget (H ++ [some (⟨true, [.int .i64 t.node, .int .i64 t.len, .slice a t.cs.length z]⟩ : Blk)]) H.length = some (⟨true, [.int .i64 t.node, .int .i64 t.len, .slice a t.cs.length z]⟩ : Blk) := ydu
  have hG := h.push (some (⟨true, [.int .i64 t.node, .int .i64 t.len, .slice a t.cs.length z]⟩ : Blk))
  have f0 : Frm [] H (H ++ [some (⟨true, [.int .i64 t.node, .int .i64 t.len, .slice a t.cs.length z]⟩ : Blk)]) := (Frm.refl _ _).push _
  have bad : ∀ H' (n : Int), Frm [] H H' → n ≠ 0 → ¬ t.Ok → K (.int .i64 n) H' := fun H' n hf h1 h2 => hk H' n hf ⟨fun q => absurd q h1, fun q => absurd q h2⟩
  unfold Tb.v
  by_cases c1 : 0 ≤ t.node ∧ t.node < 32
  · by_cases c2 : t.len < 1
    · simp only [F155, ↓yaa, ↓yab, ↓yac, ↓yad, ↓yae, ↓yaf, ↓yag, ↓yah, ↓yai, ↓ydb, ↓ydc, ↓ydd, ↓yde, ↓ydf, ↓ydg, ↓yao, ↓yap, ↓ydh, ↓ydi, ↓ydj, ↓ydk, ↓ydl, ↓ydm, ↓ydn, ↓ydo, ↓ydp, ↓yax, yay, yaz, yba, ybb, ybc, ybd, ybe, ybf, ybg, ybh, ybi, ybj, ybk, ybl, ybm, ybn, ybo, ybp, ybq, ybr, ybs, ybt, ybu, ybv, ares, tup, ybw, ybx, yby, argsE, dval, aop, ev, evs, evo, evp, fillL, addrOf, intOf?, ybz, yca, ycb, ycc, ycd, yce, ycf, zah, zag, reduceIte, Nat.reduceEqDiff, ycg, ych, yci, ycj, yck, ycl, ycm, ycn, yco, ycp, ycq, ycr, zap, zao, reduceCtorEq, zbb, zbc, zba, zaz, Nat.reduceAdd, Nat.reduceMul, zaq, zar, eqPtr, zae, zaf, zab, zaa, zac, zad, hload, hstore, zal, zam, Nat.reduceAdd, Nat.reduceLeDiff, zbb, zas, zat, one, zau, zaw, zav, splice, zaj, zak, zab, zaa, ycs, yct, ycu, ycv, ycw, ycx, ycy, ycz, zan, zai, zax, zay, and_self, true_and, and_true, lenV, yda, Nat.le_refl, if_true, ydq, ydr, yds, ne_eq, not_true_eq_false, not_false_eq_true, ← decide_not, Decidable.not_not, ydt, ydu, ydz, ydv, ydw, List.drop_zero, eq_self, Bool.false_eq_true, List.getElem?_toArray, yea, yeb, List.nil_append, List.cons_append, Bool.false_and, Int.reduceEq, Int.reduceLT, Int.reduceLE, Int.reduceNe, zbc, zbb, yec, yed, yee, yef, ydx, ydy, f168, c1, c2]
      exact bad _ _ f0 (by decide) (fun q => by have := q.len; omega)
    · by_cases c3 : 512 < t.len
      · simp only [F155, ↓yaa, ↓yab, ↓yac, ↓yad, ↓yae, ↓yaf, ↓yag, ↓yah, ↓yai, ↓ydb, ↓ydc, ↓ydd, ↓yde, ↓ydf, ↓ydg, ↓yao, ↓yap, ↓ydh, ↓ydi, ↓ydj, ↓ydk, ↓ydl, ↓ydm, ↓ydn, ↓ydo, ↓ydp, ↓yax, yay, yaz, yba, ybb, ybc, ybd, ybe, ybf, ybg, ybh, ybi, ybj, ybk, ybl, ybm, ybn, ybo, ybp, ybq, ybr, ybs, ybt, ybu, ybv, ares, tup, ybw, ybx, yby, argsE, dval, aop, ev, evs, evo, evp, fillL, addrOf, intOf?, ybz, yca, ycb, ycc, ycd, yce, ycf, zah, zag, reduceIte, Nat.reduceEqDiff, ycg, ych, yci, ycj, yck, ycl, ycm, ycn, yco, ycp, ycq, ycr, zap, zao, reduceCtorEq, zbb, zbc, zba, zaz, Nat.reduceAdd, Nat.reduceMul, zaq, zar, eqPtr, zae, zaf, zab, zaa, zac, zad, hload, hstore, zal, zam, Nat.reduceAdd, Nat.reduceLeDiff, zbb, zas, zat, one, zau, zaw, zav, splice, zaj, zak, zab, zaa, ycs, yct, ycu, ycv, ycw, ycx, ycy, ycz, zan, zai, zax, zay, and_self, true_and, and_true, lenV, yda, Nat.le_refl, if_true, ydq, ydr, yds, ne_eq, not_true_eq_false, not_false_eq_true, ← decide_not, Decidable.not_not, ydt, ydu, ydz, ydv, ydw, List.drop_zero, eq_self, Bool.false_eq_true, List.getElem?_toArray, yea, yeb, List.nil_append, List.cons_append, Bool.false_and, Int.reduceEq, Int.reduceLT, Int.reduceLE, Int.reduceNe, zbc, zbb, yec, yed, yee, yef, ydx, ydy, f168, c1, c2, c3]
        exact bad _ _ f0 (by decide) (fun q => by have := q.len; omega)
      · by_cases c4 : (512 : Int) < (t.cs.length : Int)
        · simp only [F155, ↓yaa, ↓yab, ↓yac, ↓yad, ↓yae, ↓yaf, ↓yag, ↓yah, ↓yai, ↓ydb, ↓ydc, ↓ydd, ↓yde, ↓ydf, ↓ydg, ↓yao, ↓yap, ↓ydh, ↓ydi, ↓ydj, ↓ydk, ↓ydl, ↓ydm, ↓ydn, ↓ydo, ↓ydp, ↓yax, yay, yaz, yba, ybb, ybc, ybd, ybe, ybf, ybg, ybh, ybi, ybj, ybk, ybl, ybm, ybn, ybo, ybp, ybq, ybr, ybs, ybt, ybu, ybv, ares, tup, ybw, ybx, yby, argsE, dval, aop, ev, evs, evo, evp, fillL, addrOf, intOf?, ybz, yca, ycb, ycc, ycd, yce, ycf, zah, zag, reduceIte, Nat.reduceEqDiff, ycg, ych, yci, ycj, yck, ycl, ycm, ycn, yco, ycp, ycq, ycr, zap, zao, reduceCtorEq, zbb, zbc, zba, zaz, Nat.reduceAdd, Nat.reduceMul, zaq, zar, eqPtr, zae, zaf, zab, zaa, zac, zad, hload, hstore, zal, zam, Nat.reduceAdd, Nat.reduceLeDiff, zbb, zas, zat, one, zau, zaw, zav, splice, zaj, zak, zab, zaa, ycs, yct, ycu, ycv, ycw, ycx, ycy, ycz, zan, zai, zax, zay, and_self, true_and, and_true, lenV, yda, Nat.le_refl, if_true, ydq, ydr, yds, ne_eq, not_true_eq_false, not_false_eq_true, ← decide_not, Decidable.not_not, ydt, ydu, ydz, ydv, ydw, List.drop_zero, eq_self, Bool.false_eq_true, List.getElem?_toArray, yea, yeb, List.nil_append, List.cons_append, Bool.false_and, Int.reduceEq, Int.reduceLT, Int.reduceLE, Int.reduceNe, zbc, zbb, yec, yed, yee, yef, ydx, ydy, f168, c1, c2, c3, c4]
          exact bad _ _ f0 (by decide) (fun q => by have := q.few; omega)
        · simp only [F155, ↓yaa, ↓yab, ↓yac, ↓yad, ↓yae, ↓yaf, ↓yag, ↓yah, ↓yai, ↓ydb, ↓ydc, ↓ydd, ↓yde, ↓ydf, ↓ydg, ↓yao, ↓yap, ↓ydh, ↓ydi, ↓ydj, ↓ydk, ↓ydl, ↓ydm, ↓ydn, ↓ydo, ↓ydp, ↓yax, yay, yaz, yba, ybb, ybc, ybd, ybe, ybf, ybg, ybh, ybi, ybj, ybk, ybl, ybm, ybn, ybo, ybp, ybq, ybr, ybs, ybt, ybu, ybv, ares, tup, ybw, ybx, yby, argsE, dval, aop, ev, evs, evo, evp, fillL, addrOf, intOf?, ybz, yca, ycb, ycc, ycd, yce, ycf, zah, zag, reduceIte, Nat.reduceEqDiff, ycg, ych, yci, ycj, yck, ycl, ycm, ycn, yco, ycp, ycq, ycr, zap, zao, reduceCtorEq, zbb, zbc, zba, zaz, Nat.reduceAdd, Nat.reduceMul, zaq, zar, eqPtr, zae, zaf, zab, zaa, zac, zad, hload, hstore, zal, zam, Nat.reduceAdd, Nat.reduceLeDiff, zbb, zas, zat, one, zau, zaw, zav, splice, zaj, zak, zab, zaa, ycs, yct, ycu, ycv, ycw, ycx, ycy, ycz, zan, zai, zax, zay, and_self, true_and, and_true, lenV, yda, Nat.le_refl, if_true, ydq, ydr, yds, ne_eq, not_true_eq_false, not_false_eq_true, ← decide_not, Decidable.not_not, ydt, ydu, ydz, ydv, ydw, List.drop_zero, eq_self, Bool.false_eq_true, List.getElem?_toArray, yea, yeb, List.nil_append, List.cons_append, Bool.false_and, Int.reduceEq, Int.reduceLT, Int.reduceLE, Int.reduceNe, zbc, zbb, yec, yed, yee, yef, ydx, ydy, f168, c1, c2, c3, c4]
          generalize H ++ [some (⟨true, [.int .i64 t.node, .int .i64 t.len, .slice a t.cs.length z]⟩ : Blk)] = G at *
          apply AW_loop_inv (fun k e H1 => ∃ i : Nat, i + k = t.cs.length ∧ e = [(1, .pointer (some ⟨H.length, 0, none⟩)), (25, .slice a t.cs.length z), (26, .int .i64 (t.cs.length : Int)), (27, .int .i64 (i : Int))] ∧ Frm [] G H1 ∧
            (∀ (m : Nat) (x : TC), m < i → t.cs[m]? = some x → x.Form t.node t.len) ∧ (∀ (m : Nat) (x y : TC), m + 1 < i → t.cs[m]? = some x → t.cs[m + 1]? = some y → x.Lt y)) _ t.cs.length
          · exact ⟨0, by omega, rfl, Frm.refl _ _, fun m x hm => by omega, fun m x y hm => by omega⟩
          · rintro k e H1 ⟨i, hik, rfl, hf, hx, hl⟩
            cases k with
            | zero =>
              have g0 : ¬ (i : Int) < (t.cs.length : Int) := by omega
              simp only [↓yaa, ↓yab, ↓yac, ↓yad, ↓yae, ↓yaf, ↓yag, ↓yah, ↓yai, ↓ydb, ↓ydc, ↓ydd, ↓yde, ↓ydf, ↓ydg, ↓yao, ↓yap, ↓ydh, ↓ydi, ↓ydj, ↓ydk, ↓ydl, ↓ydm, ↓ydn, ↓ydo, ↓ydp, ↓yax, yay, yaz, yba, ybb, ybc, ybd, ybe, ybf, ybg, ybh, ybi, ybj, ybk, ybl, ybm, ybn, ybo, ybp, ybq, ybr, ybs, ybt, ybu, ybv, ares, tup, ybw, ybx, yby, argsE, dval, aop, ev, evs, evo, evp, fillL, addrOf, intOf?, ybz, yca, ycb, ycc, ycd, yce, ycf, zah, zag, reduceIte, Nat.reduceEqDiff, ycg, ych, yci, ycj, yck, ycl, ycm, ycn, yco, ycp, ycq, ycr, zap, zao, reduceCtorEq, zbb, zbc, zba, zaz, Nat.reduceAdd, Nat.reduceMul, zaq, zar, eqPtr, zae, zaf, zab, zaa, zac, zad, hload, hstore, zal, zam, Nat.reduceAdd, Nat.reduceLeDiff, zbb, zas, zat, one, zau, zaw, zav, splice, zaj, zak, zab, zaa, ycs, yct, ycu, ycv, ycw, ycx, ycy, ycz, zan, zai, zax, zay, and_self, true_and, and_true, lenV, yda, Nat.le_refl, if_true, ydq, ydr, yds, ne_eq, not_true_eq_false, not_false_eq_true, ← decide_not, Decidable.not_not, ydt, ydu, ydz, ydv, ydw, List.drop_zero, eq_self, Bool.false_eq_true, List.getElem?_toArray, yea, yeb, List.nil_append, List.cons_append, Bool.false_and, Int.reduceEq, Int.reduceLT, Int.reduceLE, Int.reduceNe, zbc, zbb, yec, yed, yee, yef, ydx, ydy, g0]
              refine hk _ _ (f0.then hf) ⟨fun _ => ⟨c1, by omega, by omega, fun m x hm => hx m x (by have := (List.getElem?_eq_some_iff.1 hm).1; omega) hm, fun m x y hm hy => hl m x y (by have := (List.getElem?_eq_some_iff.1 hy).1; omega) hm hy⟩, fun _ => rfl⟩
            | succ k =>
              obtain ⟨x, hix⟩ : ∃ x, t.cs[i]? = some x := ⟨_, List.getElem?_eq_getElem (by omega)⟩
              obtain ⟨b, o, w, cs, rfl, rfl, q1, q2, q3, q4⟩ := (hG.frame0 hf) i x hix
              obtain ⟨n, hn, hc⟩ := f169 x t.node t.len
              unfold TC.v at hc
              have gb := hf.gets hg
              have lb := hget_lt gb
              have lq := hget_lt q1
              have g0 : (i : Int) < (t.cs.length : Int) := by omega
              have g1 : (0 : Int) ≤ (i : Int) := by omega
              have g3 : IntKind.i64.wrap ((i : Int) + 1) = ((i + 1 : Nat) : Int) := by rw [wrap_i64 (by omega) (by omega)]; omega
              by_cases c5 : n = 0
              · have hfm := hn.1 c5
                have f1 := hf.push (some (⟨true, [.int .i64 x.s, .int .i64 x.c, .int .i64 x.w, .bool x.b, .int .i64 x.p, .int .i64 x.n]⟩ : Blk))
                by_cases c6 : (0 : Int) < (i : Int)
                · obtain ⟨y, hiy⟩ : ∃ y, t.cs[i - 1]? = some y := ⟨_, List.getElem?_eq_getElem (by omega)⟩
                  obtain ⟨b', o', w', cs', hh, _, p1, p2, p3, p4⟩ := (hG.frame0 hf) (i - 1) y hiy
                  simp only [Option.some.injEq, Addr.mk.injEq, and_true] at hh
                  obtain ⟨rfl, rfl⟩ := hh
                  rw [q1] at p1
                  simp only [Option.some.injEq, Blk.mk.injEq] at p1
                  obtain ⟨rfl, rfl⟩ := p1
                  obtain ⟨m, hm, hd⟩ := f170 y x
                  unfold TC.v at hd
                  have g4 : IntKind.i64.wrap ((i : Int) - 1) = ((i - 1 : Nat) : Int) := by rw [wrap_i64 (by omega) (by omega)]; omega
                  have g5 : (0 : Int) ≤ ((i - 1 : Nat) : Int) := by omega
                  have g6 : ((i - 1 : Nat) : Int) < (t.cs.length : Int) := by omega
                  by_cases c7 : 0 ≤ m
                  · simp only [↓yaa, ↓yab, ↓yac, ↓yad, ↓yae, ↓yaf, ↓yag, ↓yah, ↓yai, ↓ydb, ↓ydc, ↓ydd, ↓yde, ↓ydf, ↓ydg, ↓yao, ↓yap, ↓ydh, ↓ydi, ↓ydj, ↓ydk, ↓ydl, ↓ydm, ↓ydn, ↓ydo, ↓ydp, ↓yax, yay, yaz, yba, ybb, ybc, ybd, ybe, ybf, ybg, ybh, ybi, ybj, ybk, ybl, ybm, ybn, ybo, ybp, ybq, ybr, ybs, ybt, ybu, ybv, ares, tup, ybw, ybx, yby, argsE, dval, aop, ev, evs, evo, evp, fillL, addrOf, intOf?, ybz, yca, ycb, ycc, ycd, yce, ycf, zah, zag, reduceIte, Nat.reduceEqDiff, ycg, ych, yci, ycj, yck, ycl, ycm, ycn, yco, ycp, ycq, ycr, zap, zao, reduceCtorEq, zbb, zbc, zba, zaz, Nat.reduceAdd, Nat.reduceMul, zaq, zar, eqPtr, zae, zaf, zab, zaa, zac, zad, hload, hstore, zal, zam, Nat.reduceAdd, Nat.reduceLeDiff, zbb, zas, zat, one, zau, zaw, zav, splice, zaj, zak, zab, zaa, ycs, yct, ycu, ycv, ycw, ycx, ycy, ycz, zan, zai, zax, zay, and_self, true_and, and_true, lenV, yda, Nat.le_refl, if_true, ydq, ydr, yds, ne_eq, not_true_eq_false, not_false_eq_true, ← decide_not, Decidable.not_not, ydt, ydu, ydz, ydv, ydw, List.drop_zero, eq_self, Bool.false_eq_true, List.getElem?_toArray, yea, yeb, List.nil_append, List.cons_append, Bool.false_and, Int.reduceEq, Int.reduceLT, Int.reduceLE, Int.reduceNe, zbc, zbb, yec, yed, yee, yef, ydx, ydy, g0, g1, g3, g4, g5, g6, Int.toNat_natCast, q1, q2, q3, p2, p3, hc, hd, c5, c6, c7, yem, lb, lq, gb, tk6, ls6, sz6]
                    exact bad _ _ (f0.then f1) (by decide) (fun q => (hm.1 c7) (q.lt (i - 1) y x hiy (by rw [show i - 1 + 1 = i by omega]; exact hix)))
                  · simp only [↓yaa, ↓yab, ↓yac, ↓yad, ↓yae, ↓yaf, ↓yag, ↓yah, ↓yai, ↓ydb, ↓ydc, ↓ydd, ↓yde, ↓ydf, ↓ydg, ↓yao, ↓yap, ↓ydh, ↓ydi, ↓ydj, ↓ydk, ↓ydl, ↓ydm, ↓ydn, ↓ydo, ↓ydp, ↓yax, yay, yaz, yba, ybb, ybc, ybd, ybe, ybf, ybg, ybh, ybi, ybj, ybk, ybl, ybm, ybn, ybo, ybp, ybq, ybr, ybs, ybt, ybu, ybv, ares, tup, ybw, ybx, yby, argsE, dval, aop, ev, evs, evo, evp, fillL, addrOf, intOf?, ybz, yca, ycb, ycc, ycd, yce, ycf, zah, zag, reduceIte, Nat.reduceEqDiff, ycg, ych, yci, ycj, yck, ycl, ycm, ycn, yco, ycp, ycq, ycr, zap, zao, reduceCtorEq, zbb, zbc, zba, zaz, Nat.reduceAdd, Nat.reduceMul, zaq, zar, eqPtr, zae, zaf, zab, zaa, zac, zad, hload, hstore, zal, zam, Nat.reduceAdd, Nat.reduceLeDiff, zbb, zas, zat, one, zau, zaw, zav, splice, zaj, zak, zab, zaa, ycs, yct, ycu, ycv, ycw, ycx, ycy, ycz, zan, zai, zax, zay, and_self, true_and, and_true, lenV, yda, Nat.le_refl, if_true, ydq, ydr, yds, ne_eq, not_true_eq_false, not_false_eq_true, ← decide_not, Decidable.not_not, ydt, ydu, ydz, ydv, ydw, List.drop_zero, eq_self, Bool.false_eq_true, List.getElem?_toArray, yea, yeb, List.nil_append, List.cons_append, Bool.false_and, Int.reduceEq, Int.reduceLT, Int.reduceLE, Int.reduceNe, zbc, zbb, yec, yed, yee, yef, ydx, ydy, g0, g1, g3, g4, g5, g6, Int.toNat_natCast, q1, q2, q3, p2, p3, hc, hd, c5, c6, c7, yem, lb, lq, gb, tk6, ls6, sz6]
                    refine ⟨k, by omega, i + 1, by omega, rfl, f1, ?_, ?_⟩
                    · intro m' x' hm' hx'
                      by_cases e : m' = i
                      · subst e; rw [hix] at hx'; injection hx' with hx'; subst hx'; exact hfm
                      · exact hx m' x' (by omega) hx'
                    · intro m' x' y' hm' hx' hy'
                      by_cases e : m' + 1 = i
                      · rw [e, hix] at hy'
                        injection hy' with hy'; subst hy'
                        rw [show m' = i - 1 by omega, hiy] at hx'
                        injection hx' with hx'; subst hx'
                        exact Classical.byContradiction fun q => c7 (hm.2 q)
                      · exact hl m' x' y' (by omega) hx' hy'
                · simp only [↓yaa, ↓yab, ↓yac, ↓yad, ↓yae, ↓yaf, ↓yag, ↓yah, ↓yai, ↓ydb, ↓ydc, ↓ydd, ↓yde, ↓ydf, ↓ydg, ↓yao, ↓yap, ↓ydh, ↓ydi, ↓ydj, ↓ydk, ↓ydl, ↓ydm, ↓ydn, ↓ydo, ↓ydp, ↓yax, yay, yaz, yba, ybb, ybc, ybd, ybe, ybf, ybg, ybh, ybi, ybj, ybk, ybl, ybm, ybn, ybo, ybp, ybq, ybr, ybs, ybt, ybu, ybv, ares, tup, ybw, ybx, yby, argsE, dval, aop, ev, evs, evo, evp, fillL, addrOf, intOf?, ybz, yca, ycb, ycc, ycd, yce, ycf, zah, zag, reduceIte, Nat.reduceEqDiff, ycg, ych, yci, ycj, yck, ycl, ycm, ycn, yco, ycp, ycq, ycr, zap, zao, reduceCtorEq, zbb, zbc, zba, zaz, Nat.reduceAdd, Nat.reduceMul, zaq, zar, eqPtr, zae, zaf, zab, zaa, zac, zad, hload, hstore, zal, zam, Nat.reduceAdd, Nat.reduceLeDiff, zbb, zas, zat, one, zau, zaw, zav, splice, zaj, zak, zab, zaa, ycs, yct, ycu, ycv, ycw, ycx, ycy, ycz, zan, zai, zax, zay, and_self, true_and, and_true, lenV, yda, Nat.le_refl, if_true, ydq, ydr, yds, ne_eq, not_true_eq_false, not_false_eq_true, ← decide_not, Decidable.not_not, ydt, ydu, ydz, ydv, ydw, List.drop_zero, eq_self, Bool.false_eq_true, List.getElem?_toArray, yea, yeb, List.nil_append, List.cons_append, Bool.false_and, Int.reduceEq, Int.reduceLT, Int.reduceLE, Int.reduceNe, zbc, zbb, yec, yed, yee, yef, ydx, ydy, g0, g1, g3, Int.toNat_natCast, q1, q2, q3, hc, c5, c6, yem, lb, lq, gb, tk6, ls6, sz6]
                  refine ⟨k, by omega, i + 1, by omega, rfl, f1, ?_, ?_⟩
                  · intro m' x' hm' hx'
                    have e : m' = i := by omega
                    subst e; rw [hix] at hx'; injection hx' with hx'; subst hx'; exact hfm
                  · intro m' x' y' hm'; omega
              · have f1 := hf.push (some (⟨true, [.int .i64 x.s, .int .i64 x.c, .int .i64 x.w, .bool x.b, .int .i64 x.p, .int .i64 x.n]⟩ : Blk))
                simp only [↓yaa, ↓yab, ↓yac, ↓yad, ↓yae, ↓yaf, ↓yag, ↓yah, ↓yai, ↓ydb, ↓ydc, ↓ydd, ↓yde, ↓ydf, ↓ydg, ↓yao, ↓yap, ↓ydh, ↓ydi, ↓ydj, ↓ydk, ↓ydl, ↓ydm, ↓ydn, ↓ydo, ↓ydp, ↓yax, yay, yaz, yba, ybb, ybc, ybd, ybe, ybf, ybg, ybh, ybi, ybj, ybk, ybl, ybm, ybn, ybo, ybp, ybq, ybr, ybs, ybt, ybu, ybv, ares, tup, ybw, ybx, yby, argsE, dval, aop, ev, evs, evo, evp, fillL, addrOf, intOf?, ybz, yca, ycb, ycc, ycd, yce, ycf, zah, zag, reduceIte, Nat.reduceEqDiff, ycg, ych, yci, ycj, yck, ycl, ycm, ycn, yco, ycp, ycq, ycr, zap, zao, reduceCtorEq, zbb, zbc, zba, zaz, Nat.reduceAdd, Nat.reduceMul, zaq, zar, eqPtr, zae, zaf, zab, zaa, zac, zad, hload, hstore, zal, zam, Nat.reduceAdd, Nat.reduceLeDiff, zbb, zas, zat, one, zau, zaw, zav, splice, zaj, zak, zab, zaa, ycs, yct, ycu, ycv, ycw, ycx, ycy, ycz, zan, zai, zax, zay, and_self, true_and, and_true, lenV, yda, Nat.le_refl, if_true, ydq, ydr, yds, ne_eq, not_true_eq_false, not_false_eq_true, ← decide_not, Decidable.not_not, ydt, ydu, ydz, ydv, ydw, List.drop_zero, eq_self, Bool.false_eq_true, List.getElem?_toArray, yea, yeb, List.nil_append, List.cons_append, Bool.false_and, Int.reduceEq, Int.reduceLT, Int.reduceLE, Int.reduceNe, zbc, zbb, yec, yed, yee, yef, ydx, ydy, g0, g1, g3, Int.toNat_natCast, q1, q2, q3, hc, c5, yem, lb, lq, gb, tk6, ls6, sz6]
                exact bad _ _ (f0.then f1) c5 (fun q => c5 (hn.2 (q.form i x hix)))
  · simp only [F155, ↓yaa, ↓yab, ↓yac, ↓yad, ↓yae, ↓yaf, ↓yag, ↓yah, ↓yai, ↓ydb, ↓ydc, ↓ydd, ↓yde, ↓ydf, ↓ydg, ↓yao, ↓yap, ↓ydh, ↓ydi, ↓ydj, ↓ydk, ↓ydl, ↓ydm, ↓ydn, ↓ydo, ↓ydp, ↓yax, yay, yaz, yba, ybb, ybc, ybd, ybe, ybf, ybg, ybh, ybi, ybj, ybk, ybl, ybm, ybn, ybo, ybp, ybq, ybr, ybs, ybt, ybu, ybv, ares, tup, ybw, ybx, yby, argsE, dval, aop, ev, evs, evo, evp, fillL, addrOf, intOf?, ybz, yca, ycb, ycc, ycd, yce, ycf, zah, zag, reduceIte, Nat.reduceEqDiff, ycg, ych, yci, ycj, yck, ycl, ycm, ycn, yco, ycp, ycq, ycr, zap, zao, reduceCtorEq, zbb, zbc, zba, zaz, Nat.reduceAdd, Nat.reduceMul, zaq, zar, eqPtr, zae, zaf, zab, zaa, zac, zad, hload, hstore, zal, zam, Nat.reduceAdd, Nat.reduceLeDiff, zbb, zas, zat, one, zau, zaw, zav, splice, zaj, zak, zab, zaa, ycs, yct, ycu, ycv, ycw, ycx, ycy, ycz, zan, zai, zax, zay, and_self, true_and, and_true, lenV, yda, Nat.le_refl, if_true, ydq, ydr, yds, ne_eq, not_true_eq_false, not_false_eq_true, ← decide_not, Decidable.not_not, ydt, ydu, ydz, ydv, ydw, List.drop_zero, eq_self, Bool.false_eq_true, List.getElem?_toArray, yea, yeb, List.nil_append, List.cons_append, Bool.false_and, Int.reduceEq, Int.reduceLT, Int.reduceLE, Int.reduceNe, zbc, zbb, yec, yed, yee, yef, ydx, ydy, f168, c1]
    exact bad _ _ f0 (by decide) (fun q => c1 q.node)

theorem f141 {H : Heap} {t : Tb} {a : Option Addr} {z : Nat} (h : TI H a z t.cs) {K : Value → Heap → Prop} (hk : ∀ H' (n : Int), Frm [] H H' → (n = 0 ↔ t.Ok) → K (.int .i64 n) H') : Op1 (AC tbl 141 [t.v a z] H) K := by
  apply AC_wp (F := F141) rfl (by simp [F141]) (.inl rfl)
  have hg : hget (H ++ [some (⟨true, [.int .i64 t.node, .int .i64 t.len, .slice a t.cs.length z]⟩ : Blk)]) H.length = some (⟨true, [.int .i64 t.node, .int .i64 t.len, .slice a t.cs.length z]⟩ : Blk) := ydu
  have hG := h.push (some (⟨true, [.int .i64 t.node, .int .i64 t.len, .slice a t.cs.length z]⟩ : Blk))
  have f0 : Frm [] H (H ++ [some (⟨true, [.int .i64 t.node, .int .i64 t.len, .slice a t.cs.length z]⟩ : Blk)]) := (Frm.refl _ _).push _
  have bad : ∀ H' (n : Int), Frm [] H H' → n ≠ 0 → ¬ t.Ok → K (.int .i64 n) H' := fun H' n hf h1 h2 => hk H' n hf ⟨fun q => absurd q h1, fun q => absurd q h2⟩
  unfold Tb.v
  by_cases c0 : t.node < 0
  · simp only [F141, ↓yaa, ↓yab, ↓yac, ↓yad, ↓yae, ↓yaf, ↓yag, ↓yah, ↓yai, ↓ydb, ↓ydc, ↓ydd, ↓yde, ↓ydf, ↓ydg, ↓yao, ↓yap, ↓ydh, ↓ydi, ↓ydj, ↓ydk, ↓ydl, ↓ydm, ↓ydn, ↓ydo, ↓ydp, ↓yax, yay, yaz, yba, ybb, ybc, ybd, ybe, ybf, ybg, ybh, ybi, ybj, ybk, ybl, ybm, ybn, ybo, ybp, ybq, ybr, ybs, ybt, ybu, ybv, ares, tup, ybw, ybx, yby, argsE, dval, aop, ev, evs, evo, evp, fillL, addrOf, intOf?, ybz, yca, ycb, ycc, ycd, yce, ycf, zah, zag, reduceIte, Nat.reduceEqDiff, ycg, ych, yci, ycj, yck, ycl, ycm, ycn, yco, ycp, ycq, ycr, zap, zao, reduceCtorEq, zbb, zbc, zba, zaz, Nat.reduceAdd, Nat.reduceMul, zaq, zar, eqPtr, zae, zaf, zab, zaa, zac, zad, hload, hstore, zal, zam, Nat.reduceAdd, Nat.reduceLeDiff, zbb, zas, zat, one, zau, zaw, zav, splice, zaj, zak, zab, zaa, ycs, yct, ycu, ycv, ycw, ycx, ycy, ycz, zan, zai, zax, zay, and_self, true_and, and_true, lenV, yda, Nat.le_refl, if_true, ydq, ydr, yds, ne_eq, not_true_eq_false, not_false_eq_true, ← decide_not, Decidable.not_not, ydt, ydu, ydz, ydv, ydw, List.drop_zero, eq_self, Bool.false_eq_true, List.getElem?_toArray, yea, yeb, List.nil_append, List.cons_append, Bool.false_and, Int.reduceEq, Int.reduceLT, Int.reduceLE, Int.reduceNe, zbc, zbb, yec, yed, yee, yef, ydx, ydy, c0]
    exact bad _ _ f0 (by decide) (fun q => by have := q.node; omega)
  by_cases c1 : 32 ≤ t.node
  · simp only [F141, ↓yaa, ↓yab, ↓yac, ↓yad, ↓yae, ↓yaf, ↓yag, ↓yah, ↓yai, ↓ydb, ↓ydc, ↓ydd, ↓yde, ↓ydf, ↓ydg, ↓yao, ↓yap, ↓ydh, ↓ydi, ↓ydj, ↓ydk, ↓ydl, ↓ydm, ↓ydn, ↓ydo, ↓ydp, ↓yax, yay, yaz, yba, ybb, ybc, ybd, ybe, ybf, ybg, ybh, ybi, ybj, ybk, ybl, ybm, ybn, ybo, ybp, ybq, ybr, ybs, ybt, ybu, ybv, ares, tup, ybw, ybx, yby, argsE, dval, aop, ev, evs, evo, evp, fillL, addrOf, intOf?, ybz, yca, ycb, ycc, ycd, yce, ycf, zah, zag, reduceIte, Nat.reduceEqDiff, ycg, ych, yci, ycj, yck, ycl, ycm, ycn, yco, ycp, ycq, ycr, zap, zao, reduceCtorEq, zbb, zbc, zba, zaz, Nat.reduceAdd, Nat.reduceMul, zaq, zar, eqPtr, zae, zaf, zab, zaa, zac, zad, hload, hstore, zal, zam, Nat.reduceAdd, Nat.reduceLeDiff, zbb, zas, zat, one, zau, zaw, zav, splice, zaj, zak, zab, zaa, ycs, yct, ycu, ycv, ycw, ycx, ycy, ycz, zan, zai, zax, zay, and_self, true_and, and_true, lenV, yda, Nat.le_refl, if_true, ydq, ydr, yds, ne_eq, not_true_eq_false, not_false_eq_true, ← decide_not, Decidable.not_not, ydt, ydu, ydz, ydv, ydw, List.drop_zero, eq_self, Bool.false_eq_true, List.getElem?_toArray, yea, yeb, List.nil_append, List.cons_append, Bool.false_and, Int.reduceEq, Int.reduceLT, Int.reduceLE, Int.reduceNe, zbc, zbb, yec, yed, yee, yef, ydx, ydy, c0, c1]
    exact bad _ _ f0 (by decide) (fun q => by have := q.node; omega)
  by_cases c2 : t.len < 1
  · simp only [F141, ↓yaa, ↓yab, ↓yac, ↓yad, ↓yae, ↓yaf, ↓yag, ↓yah, ↓yai, ↓ydb, ↓ydc, ↓ydd, ↓yde, ↓ydf, ↓ydg, ↓yao, ↓yap, ↓ydh, ↓ydi, ↓ydj, ↓ydk, ↓ydl, ↓ydm, ↓ydn, ↓ydo, ↓ydp, ↓yax, yay, yaz, yba, ybb, ybc, ybd, ybe, ybf, ybg, ybh, ybi, ybj, ybk, ybl, ybm, ybn, ybo, ybp, ybq, ybr, ybs, ybt, ybu, ybv, ares, tup, ybw, ybx, yby, argsE, dval, aop, ev, evs, evo, evp, fillL, addrOf, intOf?, ybz, yca, ycb, ycc, ycd, yce, ycf, zah, zag, reduceIte, Nat.reduceEqDiff, ycg, ych, yci, ycj, yck, ycl, ycm, ycn, yco, ycp, ycq, ycr, zap, zao, reduceCtorEq, zbb, zbc, zba, zaz, Nat.reduceAdd, Nat.reduceMul, zaq, zar, eqPtr, zae, zaf, zab, zaa, zac, zad, hload, hstore, zal, zam, Nat.reduceAdd, Nat.reduceLeDiff, zbb, zas, zat, one, zau, zaw, zav, splice, zaj, zak, zab, zaa, ycs, yct, ycu, ycv, ycw, ycx, ycy, ycz, zan, zai, zax, zay, and_self, true_and, and_true, lenV, yda, Nat.le_refl, if_true, ydq, ydr, yds, ne_eq, not_true_eq_false, not_false_eq_true, ← decide_not, Decidable.not_not, ydt, ydu, ydz, ydv, ydw, List.drop_zero, eq_self, Bool.false_eq_true, List.getElem?_toArray, yea, yeb, List.nil_append, List.cons_append, Bool.false_and, Int.reduceEq, Int.reduceLT, Int.reduceLE, Int.reduceNe, zbc, zbb, yec, yed, yee, yef, ydx, ydy, c0, c1, c2]
    exact bad _ _ f0 (by decide) (fun q => by have := q.len; omega)
  by_cases c3 : 512 < t.len
  · simp only [F141, ↓yaa, ↓yab, ↓yac, ↓yad, ↓yae, ↓yaf, ↓yag, ↓yah, ↓yai, ↓ydb, ↓ydc, ↓ydd, ↓yde, ↓ydf, ↓ydg, ↓yao, ↓yap, ↓ydh, ↓ydi, ↓ydj, ↓ydk, ↓ydl, ↓ydm, ↓ydn, ↓ydo, ↓ydp, ↓yax, yay, yaz, yba, ybb, ybc, ybd, ybe, ybf, ybg, ybh, ybi, ybj, ybk, ybl, ybm, ybn, ybo, ybp, ybq, ybr, ybs, ybt, ybu, ybv, ares, tup, ybw, ybx, yby, argsE, dval, aop, ev, evs, evo, evp, fillL, addrOf, intOf?, ybz, yca, ycb, ycc, ycd, yce, ycf, zah, zag, reduceIte, Nat.reduceEqDiff, ycg, ych, yci, ycj, yck, ycl, ycm, ycn, yco, ycp, ycq, ycr, zap, zao, reduceCtorEq, zbb, zbc, zba, zaz, Nat.reduceAdd, Nat.reduceMul, zaq, zar, eqPtr, zae, zaf, zab, zaa, zac, zad, hload, hstore, zal, zam, Nat.reduceAdd, Nat.reduceLeDiff, zbb, zas, zat, one, zau, zaw, zav, splice, zaj, zak, zab, zaa, ycs, yct, ycu, ycv, ycw, ycx, ycy, ycz, zan, zai, zax, zay, and_self, true_and, and_true, lenV, yda, Nat.le_refl, if_true, ydq, ydr, yds, ne_eq, not_true_eq_false, not_false_eq_true, ← decide_not, Decidable.not_not, ydt, ydu, ydz, ydv, ydw, List.drop_zero, eq_self, Bool.false_eq_true, List.getElem?_toArray, yea, yeb, List.nil_append, List.cons_append, Bool.false_and, Int.reduceEq, Int.reduceLT, Int.reduceLE, Int.reduceNe, zbc, zbb, yec, yed, yee, yef, ydx, ydy, c0, c1, c2, c3]
    exact bad _ _ f0 (by decide) (fun q => by have := q.len; omega)
  by_cases c4 : (512 : Int) < (t.cs.length : Int)
  · simp only [F141, ↓yaa, ↓yab, ↓yac, ↓yad, ↓yae, ↓yaf, ↓yag, ↓yah, ↓yai, ↓ydb, ↓ydc, ↓ydd, ↓yde, ↓ydf, ↓ydg, ↓yao, ↓yap, ↓ydh, ↓ydi, ↓ydj, ↓ydk, ↓ydl, ↓ydm, ↓ydn, ↓ydo, ↓ydp, ↓yax, yay, yaz, yba, ybb, ybc, ybd, ybe, ybf, ybg, ybh, ybi, ybj, ybk, ybl, ybm, ybn, ybo, ybp, ybq, ybr, ybs, ybt, ybu, ybv, ares, tup, ybw, ybx, yby, argsE, dval, aop, ev, evs, evo, evp, fillL, addrOf, intOf?, ybz, yca, ycb, ycc, ycd, yce, ycf, zah, zag, reduceIte, Nat.reduceEqDiff, ycg, ych, yci, ycj, yck, ycl, ycm, ycn, yco, ycp, ycq, ycr, zap, zao, reduceCtorEq, zbb, zbc, zba, zaz, Nat.reduceAdd, Nat.reduceMul, zaq, zar, eqPtr, zae, zaf, zab, zaa, zac, zad, hload, hstore, zal, zam, Nat.reduceAdd, Nat.reduceLeDiff, zbb, zas, zat, one, zau, zaw, zav, splice, zaj, zak, zab, zaa, ycs, yct, ycu, ycv, ycw, ycx, ycy, ycz, zan, zai, zax, zay, and_self, true_and, and_true, lenV, yda, Nat.le_refl, if_true, ydq, ydr, yds, ne_eq, not_true_eq_false, not_false_eq_true, ← decide_not, Decidable.not_not, ydt, ydu, ydz, ydv, ydw, List.drop_zero, eq_self, Bool.false_eq_true, List.getElem?_toArray, yea, yeb, List.nil_append, List.cons_append, Bool.false_and, Int.reduceEq, Int.reduceLT, Int.reduceLE, Int.reduceNe, zbc, zbb, yec, yed, yee, yef, ydx, ydy, c0, c1, c2, c3, c4]
    exact bad _ _ f0 (by decide) (fun q => by have := q.few; omega)
  simp only [F141, ↓yaa, ↓yab, ↓yac, ↓yad, ↓yae, ↓yaf, ↓yag, ↓yah, ↓yai, ↓ydb, ↓ydc, ↓ydd, ↓yde, ↓ydf, ↓ydg, ↓yao, ↓yap, ↓ydh, ↓ydi, ↓ydj, ↓ydk, ↓ydl, ↓ydm, ↓ydn, ↓ydo, ↓ydp, ↓yax, yay, yaz, yba, ybb, ybc, ybd, ybe, ybf, ybg, ybh, ybi, ybj, ybk, ybl, ybm, ybn, ybo, ybp, ybq, ybr, ybs, ybt, ybu, ybv, ares, tup, ybw, ybx, yby, argsE, dval, aop, ev, evs, evo, evp, fillL, addrOf, intOf?, ybz, yca, ycb, ycc, ycd, yce, ycf, zah, zag, reduceIte, Nat.reduceEqDiff, ycg, ych, yci, ycj, yck, ycl, ycm, ycn, yco, ycp, ycq, ycr, zap, zao, reduceCtorEq, zbb, zbc, zba, zaz, Nat.reduceAdd, Nat.reduceMul, zaq, zar, eqPtr, zae, zaf, zab, zaa, zac, zad, hload, hstore, zal, zam, Nat.reduceAdd, Nat.reduceLeDiff, zbb, zas, zat, one, zau, zaw, zav, splice, zaj, zak, zab, zaa, ycs, yct, ycu, ycv, ycw, ycx, ycy, ycz, zan, zai, zax, zay, and_self, true_and, and_true, lenV, yda, Nat.le_refl, if_true, ydq, ydr, yds, ne_eq, not_true_eq_false, not_false_eq_true, ← decide_not, Decidable.not_not, ydt, ydu, ydz, ydv, ydw, List.drop_zero, eq_self, Bool.false_eq_true, List.getElem?_toArray, yea, yeb, List.nil_append, List.cons_append, Bool.false_and, Int.reduceEq, Int.reduceLT, Int.reduceLE, Int.reduceNe, zbc, zbb, yec, yed, yee, yef, ydx, ydy, c0, c1, c2, c3, c4]
  generalize H ++ [some (⟨true, [.int .i64 t.node, .int .i64 t.len, .slice a t.cs.length z]⟩ : Blk)] = G at *
  have htv : t.v a z = .agg #[.int .i64 t.node, .int .i64 t.len, .slice a t.cs.length z] := rfl
  apply AW_loop_inv (fun k e H1 => ∃ i : Nat, i + k = t.cs.length ∧ e = [(1, .pointer (some ⟨H.length, 0, none⟩)), (3, .int .i64 (i : Int))] ∧ Frm [] G H1 ∧
    (∀ (m : Nat) (x : TC), m < i → t.cs[m]? = some x → x.Form t.node t.len) ∧ (∀ (m : Nat) (x y : TC), m + 1 < i → t.cs[m]? = some x → t.cs[m + 1]? = some y → x.Lt y)) _ t.cs.length
  · exact ⟨0, by omega, rfl, Frm.refl _ _, fun m x hm => by omega, fun m x y hm => by omega⟩
  · rintro k e H1 ⟨i, hik, rfl, hf, hx, hl⟩
    have gb := hf.gets hg
    cases k with
    | zero =>
      have g0 : ¬ (i : Int) < (t.cs.length : Int) := by omega
      simp only [↓yaa, ↓yab, ↓yac, ↓yad, ↓yae, ↓yaf, ↓yag, ↓yah, ↓yai, ↓ydb, ↓ydc, ↓ydd, ↓yde, ↓ydf, ↓ydg, ↓yao, ↓yap, ↓ydh, ↓ydi, ↓ydj, ↓ydk, ↓ydl, ↓ydm, ↓ydn, ↓ydo, ↓ydp, ↓yax, yay, yaz, yba, ybb, ybc, ybd, ybe, ybf, ybg, ybh, ybi, ybj, ybk, ybl, ybm, ybn, ybo, ybp, ybq, ybr, ybs, ybt, ybu, ybv, ares, tup, ybw, ybx, yby, argsE, dval, aop, ev, evs, evo, evp, fillL, addrOf, intOf?, ybz, yca, ycb, ycc, ycd, yce, ycf, zah, zag, reduceIte, Nat.reduceEqDiff, ycg, ych, yci, ycj, yck, ycl, ycm, ycn, yco, ycp, ycq, ycr, zap, zao, reduceCtorEq, zbb, zbc, zba, zaz, Nat.reduceAdd, Nat.reduceMul, zaq, zar, eqPtr, zae, zaf, zab, zaa, zac, zad, hload, hstore, zal, zam, Nat.reduceAdd, Nat.reduceLeDiff, zbb, zas, zat, one, zau, zaw, zav, splice, zaj, zak, zab, zaa, ycs, yct, ycu, ycv, ycw, ycx, ycy, ycz, zan, zai, zax, zay, and_self, true_and, and_true, lenV, yda, Nat.le_refl, if_true, ydq, ydr, yds, ne_eq, not_true_eq_false, not_false_eq_true, ← decide_not, Decidable.not_not, ydt, ydu, ydz, ydv, ydw, List.drop_zero, eq_self, Bool.false_eq_true, List.getElem?_toArray, yea, yeb, List.nil_append, List.cons_append, Bool.false_and, Int.reduceEq, Int.reduceLT, Int.reduceLE, Int.reduceNe, zbc, zbb, yec, yed, yee, yef, ydx, ydy, g0, gb]
      refine hk _ _ (f0.then hf) ⟨fun _ => ⟨by omega, by omega, by omega, fun m x hm => hx m x (by have := (List.getElem?_eq_some_iff.1 hm).1; omega) hm, fun m x y hm hy => hl m x y (by have := (List.getElem?_eq_some_iff.1 hy).1; omega) hm hy⟩, fun _ => rfl⟩
    | succ k =>
      obtain ⟨x, hix⟩ : ∃ x, t.cs[i]? = some x := ⟨_, List.getElem?_eq_getElem (by omega)⟩
      obtain ⟨b, o, w, cs, rfl, rfl, q1, q2, q3, q4⟩ := (hG.frame0 hf) i x hix
      have lb := hget_lt gb
      have lq := hget_lt q1
      have hxv : x.v = .agg #[.int .i64 x.s, .int .i64 x.c, .int .i64 x.w, .bool x.b, .int .i64 x.p, .int .i64 x.n] := rfl
      have g0 : (i : Int) < (t.cs.length : Int) := by omega
      have g1 : (0 : Int) ≤ (i : Int) := by omega
      have g3 : IntKind.i64.wrap ((i : Int) + 1) = ((i + 1 : Nat) : Int) := by rw [wrap_i64 (by omega) (by omega)]; omega
      simp only [↓yaa, ↓yab, ↓yac, ↓yad, ↓yae, ↓yaf, ↓yag, ↓yah, ↓yai, ↓ydb, ↓ydc, ↓ydd, ↓yde, ↓ydf, ↓ydg, ↓yao, ↓yap, ↓ydh, ↓ydi, ↓ydj, ↓ydk, ↓ydl, ↓ydm, ↓ydn, ↓ydo, ↓ydp, ↓yax, yay, yaz, yba, ybb, ybc, ybd, ybe, ybf, ybg, ybh, ybi, ybj, ybk, ybl, ybm, ybn, ybo, ybp, ybq, ybr, ybs, ybt, ybu, ybv, ares, tup, ybw, ybx, yby, argsE, dval, aop, ev, evs, evo, evp, fillL, addrOf, intOf?, ybz, yca, ycb, ycc, ycd, yce, ycf, zah, zag, reduceIte, Nat.reduceEqDiff, ycg, ych, yci, ycj, yck, ycl, ycm, ycn, yco, ycp, ycq, ycr, zap, zao, reduceCtorEq, zbb, zbc, zba, zaz, Nat.reduceAdd, Nat.reduceMul, zaq, zar, eqPtr, zae, zaf, zab, zaa, zac, zad, hload, hstore, zal, zam, Nat.reduceAdd, Nat.reduceLeDiff, zbb, zas, zat, one, zau, zaw, zav, splice, zaj, zak, zab, zaa, ycs, yct, ycu, ycv, ycw, ycx, ycy, ycz, zan, zai, zax, zay, and_self, true_and, and_true, lenV, yda, Nat.le_refl, if_true, ydq, ydr, yds, ne_eq, not_true_eq_false, not_false_eq_true, ← decide_not, Decidable.not_not, ydt, ydu, ydz, ydv, ydw, List.drop_zero, eq_self, Bool.false_eq_true, List.getElem?_toArray, yea, yeb, List.nil_append, List.cons_append, Bool.false_and, Int.reduceEq, Int.reduceLT, Int.reduceLE, Int.reduceNe, zbc, zbb, yec, yed, yee, yef, ydx, ydy, g0, g1, g3, Int.toNat_natCast, q1, q2, q3, gb, tk6, ls6, sz6, tk3, ls3]
      rw [← htv, ← hxv]
      refine f144 fun H2 n f2 hn => ?_
      have gb2 := f2.gets gb
      have q12 := f2.gets q1
      have f1 := hf.then f2
      by_cases c5 : n = 0
      · have hfm := hn.1 c5
        by_cases c6 : (0 : Int) < (i : Int)
        · obtain ⟨y, hiy⟩ : ∃ y, t.cs[i - 1]? = some y := ⟨_, List.getElem?_eq_getElem (by omega)⟩
          obtain ⟨b', o', w', cs', hh, _, p1, p2, p3, p4⟩ := (hG.frame0 hf) (i - 1) y hiy
          simp only [Option.some.injEq, Addr.mk.injEq, and_true] at hh
          obtain ⟨rfl, rfl⟩ := hh
          rw [q1] at p1
          simp only [Option.some.injEq, Blk.mk.injEq] at p1
          obtain ⟨rfl, rfl⟩ := p1
          have hd := fun G => f157 y x G
          obtain ⟨m, hm, hd⟩ := hd H2
          unfold TC.v at hd
          have g4 : IntKind.i64.wrap ((i : Int) - 1) = ((i - 1 : Nat) : Int) := by rw [wrap_i64 (by omega) (by omega)]; omega
          have g5 : (0 : Int) ≤ ((i - 1 : Nat) : Int) := by omega
          have g6 : ((i - 1 : Nat) : Int) < (t.cs.length : Int) := by omega
          cases m with
          | false =>
            simp only [↓yaa, ↓yab, ↓yac, ↓yad, ↓yae, ↓yaf, ↓yag, ↓yah, ↓yai, ↓ydb, ↓ydc, ↓ydd, ↓yde, ↓ydf, ↓ydg, ↓yao, ↓yap, ↓ydh, ↓ydi, ↓ydj, ↓ydk, ↓ydl, ↓ydm, ↓ydn, ↓ydo, ↓ydp, ↓yax, yay, yaz, yba, ybb, ybc, ybd, ybe, ybf, ybg, ybh, ybi, ybj, ybk, ybl, ybm, ybn, ybo, ybp, ybq, ybr, ybs, ybt, ybu, ybv, ares, tup, ybw, ybx, yby, argsE, dval, aop, ev, evs, evo, evp, fillL, addrOf, intOf?, ybz, yca, ycb, ycc, ycd, yce, ycf, zah, zag, reduceIte, Nat.reduceEqDiff, ycg, ych, yci, ycj, yck, ycl, ycm, ycn, yco, ycp, ycq, ycr, zap, zao, reduceCtorEq, zbb, zbc, zba, zaz, Nat.reduceAdd, Nat.reduceMul, zaq, zar, eqPtr, zae, zaf, zab, zaa, zac, zad, hload, hstore, zal, zam, Nat.reduceAdd, Nat.reduceLeDiff, zbb, zas, zat, one, zau, zaw, zav, splice, zaj, zak, zab, zaa, ycs, yct, ycu, ycv, ycw, ycx, ycy, ycz, zan, zai, zax, zay, and_self, true_and, and_true, lenV, yda, Nat.le_refl, if_true, ydq, ydr, yds, ne_eq, not_true_eq_false, not_false_eq_true, ← decide_not, Decidable.not_not, ydt, ydu, ydz, ydv, ydw, List.drop_zero, eq_self, Bool.false_eq_true, List.getElem?_toArray, yea, yeb, List.nil_append, List.cons_append, Bool.false_and, Int.reduceEq, Int.reduceLT, Int.reduceLE, Int.reduceNe, zbc, zbb, yec, yed, yee, yef, ydx, ydy, g0, g1, g3, g4, g5, g6, Int.toNat_natCast, q12, q2, q3, p2, p3, hd, c5, c6, gb2, tk6, ls6, sz6]
            exact bad _ _ (f0.then f1) (by decide) (fun q => by have := hm.2 (q.lt (i - 1) y x hiy (by rw [show i - 1 + 1 = i by omega]; exact hix)); simp at this)
          | true =>
            simp only [↓yaa, ↓yab, ↓yac, ↓yad, ↓yae, ↓yaf, ↓yag, ↓yah, ↓yai, ↓ydb, ↓ydc, ↓ydd, ↓yde, ↓ydf, ↓ydg, ↓yao, ↓yap, ↓ydh, ↓ydi, ↓ydj, ↓ydk, ↓ydl, ↓ydm, ↓ydn, ↓ydo, ↓ydp, ↓yax, yay, yaz, yba, ybb, ybc, ybd, ybe, ybf, ybg, ybh, ybi, ybj, ybk, ybl, ybm, ybn, ybo, ybp, ybq, ybr, ybs, ybt, ybu, ybv, ares, tup, ybw, ybx, yby, argsE, dval, aop, ev, evs, evo, evp, fillL, addrOf, intOf?, ybz, yca, ycb, ycc, ycd, yce, ycf, zah, zag, reduceIte, Nat.reduceEqDiff, ycg, ych, yci, ycj, yck, ycl, ycm, ycn, yco, ycp, ycq, ycr, zap, zao, reduceCtorEq, zbb, zbc, zba, zaz, Nat.reduceAdd, Nat.reduceMul, zaq, zar, eqPtr, zae, zaf, zab, zaa, zac, zad, hload, hstore, zal, zam, Nat.reduceAdd, Nat.reduceLeDiff, zbb, zas, zat, one, zau, zaw, zav, splice, zaj, zak, zab, zaa, ycs, yct, ycu, ycv, ycw, ycx, ycy, ycz, zan, zai, zax, zay, and_self, true_and, and_true, lenV, yda, Nat.le_refl, if_true, ydq, ydr, yds, ne_eq, not_true_eq_false, not_false_eq_true, ← decide_not, Decidable.not_not, ydt, ydu, ydz, ydv, ydw, List.drop_zero, eq_self, Bool.false_eq_true, List.getElem?_toArray, yea, yeb, List.nil_append, List.cons_append, Bool.false_and, Int.reduceEq, Int.reduceLT, Int.reduceLE, Int.reduceNe, zbc, zbb, yec, yed, yee, yef, ydx, ydy, g0, g1, g3, g4, g5, g6, Int.toNat_natCast, q12, q2, q3, p2, p3, hd, c5, c6, gb2, tk6, ls6, sz6]
            refine ⟨k, by omega, i + 1, by omega, rfl, f1, ?_, ?_⟩
            · intro m' x' hm' hx'
              by_cases e : m' = i
              · subst e; rw [hix] at hx'; injection hx' with hx'; subst hx'; exact hfm
              · exact hx m' x' (by omega) hx'
            · intro m' x' y' hm' hx' hy'
              by_cases e : m' + 1 = i
              · rw [e, hix] at hy'
                injection hy' with hy'; subst hy'
                rw [show m' = i - 1 by omega, hiy] at hx'
                injection hx' with hx'; subst hx'
                exact hm.1 rfl
              · exact hl m' x' y' (by omega) hx' hy'
        · simp only [↓yaa, ↓yab, ↓yac, ↓yad, ↓yae, ↓yaf, ↓yag, ↓yah, ↓yai, ↓ydb, ↓ydc, ↓ydd, ↓yde, ↓ydf, ↓ydg, ↓yao, ↓yap, ↓ydh, ↓ydi, ↓ydj, ↓ydk, ↓ydl, ↓ydm, ↓ydn, ↓ydo, ↓ydp, ↓yax, yay, yaz, yba, ybb, ybc, ybd, ybe, ybf, ybg, ybh, ybi, ybj, ybk, ybl, ybm, ybn, ybo, ybp, ybq, ybr, ybs, ybt, ybu, ybv, ares, tup, ybw, ybx, yby, argsE, dval, aop, ev, evs, evo, evp, fillL, addrOf, intOf?, ybz, yca, ycb, ycc, ycd, yce, ycf, zah, zag, reduceIte, Nat.reduceEqDiff, ycg, ych, yci, ycj, yck, ycl, ycm, ycn, yco, ycp, ycq, ycr, zap, zao, reduceCtorEq, zbb, zbc, zba, zaz, Nat.reduceAdd, Nat.reduceMul, zaq, zar, eqPtr, zae, zaf, zab, zaa, zac, zad, hload, hstore, zal, zam, Nat.reduceAdd, Nat.reduceLeDiff, zbb, zas, zat, one, zau, zaw, zav, splice, zaj, zak, zab, zaa, ycs, yct, ycu, ycv, ycw, ycx, ycy, ycz, zan, zai, zax, zay, and_self, true_and, and_true, lenV, yda, Nat.le_refl, if_true, ydq, ydr, yds, ne_eq, not_true_eq_false, not_false_eq_true, ← decide_not, Decidable.not_not, ydt, ydu, ydz, ydv, ydw, List.drop_zero, eq_self, Bool.false_eq_true, List.getElem?_toArray, yea, yeb, List.nil_append, List.cons_append, Bool.false_and, Int.reduceEq, Int.reduceLT, Int.reduceLE, Int.reduceNe, zbc, zbb, yec, yed, yee, yef, ydx, ydy, g0, g1, g3, Int.toNat_natCast, c5, c6, gb2]
          refine ⟨k, by omega, i + 1, by omega, rfl, f1, ?_, ?_⟩
          · intro m' x' hm' hx'
            have e : m' = i := by omega
            subst e; rw [hix] at hx'; injection hx' with hx'; subst hx'; exact hfm
          · intro m' x' y' hm'; omega
      · simp only [↓yaa, ↓yab, ↓yac, ↓yad, ↓yae, ↓yaf, ↓yag, ↓yah, ↓yai, ↓ydb, ↓ydc, ↓ydd, ↓yde, ↓ydf, ↓ydg, ↓yao, ↓yap, ↓ydh, ↓ydi, ↓ydj, ↓ydk, ↓ydl, ↓ydm, ↓ydn, ↓ydo, ↓ydp, ↓yax, yay, yaz, yba, ybb, ybc, ybd, ybe, ybf, ybg, ybh, ybi, ybj, ybk, ybl, ybm, ybn, ybo, ybp, ybq, ybr, ybs, ybt, ybu, ybv, ares, tup, ybw, ybx, yby, argsE, dval, aop, ev, evs, evo, evp, fillL, addrOf, intOf?, ybz, yca, ycb, ycc, ycd, yce, ycf, zah, zag, reduceIte, Nat.reduceEqDiff, ycg, ych, yci, ycj, yck, ycl, ycm, ycn, yco, ycp, ycq, ycr, zap, zao, reduceCtorEq, zbb, zbc, zba, zaz, Nat.reduceAdd, Nat.reduceMul, zaq, zar, eqPtr, zae, zaf, zab, zaa, zac, zad, hload, hstore, zal, zam, Nat.reduceAdd, Nat.reduceLeDiff, zbb, zas, zat, one, zau, zaw, zav, splice, zaj, zak, zab, zaa, ycs, yct, ycu, ycv, ycw, ycx, ycy, ycz, zan, zai, zax, zay, and_self, true_and, and_true, lenV, yda, Nat.le_refl, if_true, ydq, ydr, yds, ne_eq, not_true_eq_false, not_false_eq_true, ← decide_not, Decidable.not_not, ydt, ydu, ydz, ydv, ydw, List.drop_zero, eq_self, Bool.false_eq_true, List.getElem?_toArray, yea, yeb, List.nil_append, List.cons_append, Bool.false_and, Int.reduceEq, Int.reduceLT, Int.reduceLE, Int.reduceNe, zbc, zbb, yec, yed, yee, yef, ydx, ydy, c5]
        exact bad _ _ (f0.then f1) c5 (fun q => c5 (hn.2 (q.form i x hix)))

end Go.Proofs.Ytejcabdejoameaa.AI

/- The cell of a slot. -/
set_option linter.unusedSimpArgs false
set_option linter.unusedVariables false
set_option maxHeartbeats 4000000
namespace Go.Proofs.Ytejcabdejoameaa.AI
open Go

theorem find_at {l : List TC} {key : Int} {i : Nat} {x : TC} (h1 : ∀ (m : Nat) (x : TC), m < i → l[m]? = some x → x.s ≠ key) (h2 : l[i]? = some x) (h3 : x.s = key) : l.find? (fun x => decide (x.s = key)) = some x := by
  rw [List.find?_eq_some_iff_getElem]
  obtain ⟨hi, he⟩ := List.getElem?_eq_some_iff.1 h2
  refine ⟨by simpa using h3, i, hi, he, fun j hj => ?_⟩
  have := h1 j _ hj (List.getElem?_eq_getElem (by omega))
  simpa using this
theorem find_no {l : List TC} {key : Int} (h1 : ∀ (m : Nat) (x : TC), l[m]? = some x → x.s ≠ key) : l.find? (fun x => decide (x.s = key)) = none := by
  rw [List.find?_eq_none]
  intro x hx
  obtain ⟨i, hi, rfl⟩ := List.getElem_of_mem hx
  have := h1 i _ (List.getElem?_eq_getElem hi)
  simpa using this

theorem f158 {H : Heap} {l : List TC} {a : Option Addr} {z : Nat} {key : Int} (h : TI H a z l) (hl : l.length ≤ 512) (hs : ∀ (i j : Nat) (x y : TC), i ≤ j → l[i]? = some x → l[j]? = some y → x.s ≤ y.s) {K : Value → Heap → Prop}
    (hk : ∀ (i : Nat) (f : Bool), i ≤ l.length → (∀ (m : Nat) (x : TC), m < i → l[m]? = some x → x.s < key) → (∀ (m : Nat) (x : TC), i ≤ m → l[m]? = some x → key ≤ x.s) → K (.tuple #[.int .i64 (i : Int), .bool f]) H) :
    Op1 (AC tbl 158 [.slice a l.length z, .int .i64 key, .func (.func 159) #[] #[]] H) K := by
  apply AC_wp (F := F158) rfl (by simp [F158]) (.inl rfl)
  have happ2 : ∀ v w : Value, (#[] : Array Value).toList ++ [v, w] ++ (#[] : Array Value).toList = [v, w] := fun _ _ => rfl
  simp only [F158, ↓yaa, ↓yab, ↓yac, ↓yad, ↓yae, ↓yaf, ↓yag, ↓yah, ↓yai, ↓ydb, ↓ydc, ↓ydd, ↓yde, ↓ydf, ↓ydg, ↓yao, ↓yap, ↓ydh, ↓ydi, ↓ydj, ↓ydk, ↓ydl, ↓ydm, ↓ydn, ↓ydo, ↓ydp, ↓yax, yay, yaz, yba, ybb, ybc, ybd, ybe, ybf, ybg, ybh, ybi, ybj, ybk, ybl, ybm, ybn, ybo, ybp, ybq, ybr, ybs, ybt, ybu, ybv, ares, tup, ybw, ybx, yby, argsE, dval, aop, ev, evs, evo, evp, fillL, addrOf, intOf?, ybz, yca, ycb, ycc, ycd, yce, ycf, zah, zag, reduceIte, Nat.reduceEqDiff, ycg, ych, yci, ycj, yck, ycl, ycm, ycn, yco, ycp, ycq, ycr, zap, zao, reduceCtorEq, zbb, zbc, zba, zaz, Nat.reduceAdd, Nat.reduceMul, zaq, zar, eqPtr, zae, zaf, zab, zaa, zac, zad, hload, hstore, zal, zam, Nat.reduceAdd, Nat.reduceLeDiff, zbb, zas, zat, one, zau, zaw, zav, splice, zaj, zak, zab, zaa, ycs, yct, ycu, ycv, ycw, ycx, ycy, ycz, zan, zai, zax, zay, and_self, true_and, and_true, lenV, yda, Nat.le_refl, if_true, ydq, ydr, yds, ne_eq, not_true_eq_false, not_false_eq_true, ← decide_not, Decidable.not_not, ydt, ydu, ydz, ydv, ydw, List.drop_zero, eq_self, Bool.false_eq_true, List.getElem?_toArray, yea, yeb, List.nil_append, List.cons_append, Bool.false_and, Int.reduceEq, Int.reduceLT, Int.reduceLE, Int.reduceNe, zbc, zbb, yec, yed, yee, yef, ydx, ydy]
  apply AW_loop_inv (fun k e H1 => ∃ i j : Nat, i ≤ j ∧ j ≤ l.length ∧ k = j - i ∧ e = [(0, .slice a l.length z), (1, .int .i64 key), (2, .func (.func 159) #[] #[]), (8, .int .i64 (l.length : Int)), (9, .int .i64 (i : Int)), (10, .int .i64 (j : Int))] ∧ H1 = H ∧
    (∀ (m : Nat) (x : TC), m < i → l[m]? = some x → x.s < key) ∧ (∀ (m : Nat) (x : TC), j ≤ m → l[m]? = some x → key ≤ x.s)) _ l.length
  · exact ⟨0, l.length, by omega, by omega, by omega, rfl, rfl, fun m x hm => by omega, fun m x hm hx => by have := (List.getElem?_eq_some_iff.1 hx).1; omega⟩
  · rintro k e H1 ⟨i, j, hij, hj, rfl, rfl, rfl, h1, h2⟩
    by_cases c1 : (i : Int) < (j : Int)
    · have e1 : IntKind.i64.wrap ((i : Int) + (j : Int)) = ((i + j : Nat) : Int) := by rw [wrap_i64 (by omega) (by omega)]; omega
      have e2 : IntKind.u64.wrap ((i + j : Nat) : Int) = ((i + j : Nat) : Int) := wrap_u64 (by omega) (by omega)
      have e3 : binV .shr (.int .u64 ((i + j : Nat) : Int)) (.int .u64 1) = some (.int .u64 (((i + j) / 2 : Nat) : Int)) := by
        rw [binV_shr _ _ _ _ (by omega)]
        have := shr_nat .u64 (i + j) 1 (by decide)
        rw [show ((1 : Nat) : Int) = (1 : Int) from rfl] at this
        rw [this]
      have e4 : IntKind.i64.wrap (((i + j) / 2 : Nat) : Int) = (((i + j) / 2 : Nat) : Int) := wrap_i64 (by omega) (by omega)
      obtain ⟨m, hm⟩ : ∃ m, m = (i + j) / 2 := ⟨_, rfl⟩
      rw [← hm] at e3 e4
      obtain ⟨x, hx⟩ : ∃ x, l[m]? = some x := ⟨_, List.getElem?_eq_getElem (by omega)⟩
      obtain ⟨b, o, w, cs, rfl, rfl, q1, q2, q3, q4⟩ := h m x hx
      have hc := f159 x key H1
      unfold TC.v at hc
      have g1 : (0 : Int) ≤ (m : Int) := by omega
      have g2 : (m : Int) < (l.length : Int) := by omega
      have e5 : IntKind.i64.wrap ((m : Int) + 1) = ((m + 1 : Nat) : Int) := by rw [wrap_i64 (by omega) (by omega)]; omega
      have e6 : (cmpI x.s key < 0) = (x.s < key) := by
        apply propext; unfold cmpI; split
        · simp; omega
        · split <;> simp <;> omega
      by_cases c2 : x.s < key
      · simp only [↓yaa, ↓yab, ↓yac, ↓yad, ↓yae, ↓yaf, ↓yag, ↓yah, ↓yai, ↓ydb, ↓ydc, ↓ydd, ↓yde, ↓ydf, ↓ydg, ↓yao, ↓yap, ↓ydh, ↓ydi, ↓ydj, ↓ydk, ↓ydl, ↓ydm, ↓ydn, ↓ydo, ↓ydp, ↓yax, yay, yaz, yba, ybb, ybc, ybd, ybe, ybf, ybg, ybh, ybi, ybj, ybk, ybl, ybm, ybn, ybo, ybp, ybq, ybr, ybs, ybt, ybu, ybv, ares, tup, ybw, ybx, yby, argsE, dval, aop, ev, evs, evo, evp, fillL, addrOf, intOf?, ybz, yca, ycb, ycc, ycd, yce, ycf, zah, zag, reduceIte, Nat.reduceEqDiff, ycg, ych, yci, ycj, yck, ycl, ycm, ycn, yco, ycp, ycq, ycr, zap, zao, reduceCtorEq, zbb, zbc, zba, zaz, Nat.reduceAdd, Nat.reduceMul, zaq, zar, eqPtr, zae, zaf, zab, zaa, zac, zad, hload, hstore, zal, zam, Nat.reduceAdd, Nat.reduceLeDiff, zbb, zas, zat, one, zau, zaw, zav, splice, zaj, zak, zab, zaa, ycs, yct, ycu, ycv, ycw, ycx, ycy, ycz, zan, zai, zax, zay, and_self, true_and, and_true, lenV, yda, Nat.le_refl, if_true, ydq, ydr, yds, ne_eq, not_true_eq_false, not_false_eq_true, ← decide_not, Decidable.not_not, ydt, ydu, ydz, ydv, ydw, List.drop_zero, eq_self, Bool.false_eq_true, List.getElem?_toArray, yea, yeb, List.nil_append, List.cons_append, Bool.false_and, Int.reduceEq, Int.reduceLT, Int.reduceLE, Int.reduceNe, zbc, zbb, yec, yed, yee, yef, ydx, ydy, c1, e1, e2, e3, e4, g1, g2, Int.toNat_natCast, q1, q2, q3, tk6, ls6, happ2, hc, e5, e6, c2]
        refine ⟨j - (m + 1), by omega, m + 1, j, by omega, by omega, rfl, rfl, rfl, ?_, h2⟩
        intro m' y hm' hy
        have := hs m' m y x (by omega) hy hx
        omega
      · simp only [↓yaa, ↓yab, ↓yac, ↓yad, ↓yae, ↓yaf, ↓yag, ↓yah, ↓yai, ↓ydb, ↓ydc, ↓ydd, ↓yde, ↓ydf, ↓ydg, ↓yao, ↓yap, ↓ydh, ↓ydi, ↓ydj, ↓ydk, ↓ydl, ↓ydm, ↓ydn, ↓ydo, ↓ydp, ↓yax, yay, yaz, yba, ybb, ybc, ybd, ybe, ybf, ybg, ybh, ybi, ybj, ybk, ybl, ybm, ybn, ybo, ybp, ybq, ybr, ybs, ybt, ybu, ybv, ares, tup, ybw, ybx, yby, argsE, dval, aop, ev, evs, evo, evp, fillL, addrOf, intOf?, ybz, yca, ycb, ycc, ycd, yce, ycf, zah, zag, reduceIte, Nat.reduceEqDiff, ycg, ych, yci, ycj, yck, ycl, ycm, ycn, yco, ycp, ycq, ycr, zap, zao, reduceCtorEq, zbb, zbc, zba, zaz, Nat.reduceAdd, Nat.reduceMul, zaq, zar, eqPtr, zae, zaf, zab, zaa, zac, zad, hload, hstore, zal, zam, Nat.reduceAdd, Nat.reduceLeDiff, zbb, zas, zat, one, zau, zaw, zav, splice, zaj, zak, zab, zaa, ycs, yct, ycu, ycv, ycw, ycx, ycy, ycz, zan, zai, zax, zay, and_self, true_and, and_true, lenV, yda, Nat.le_refl, if_true, ydq, ydr, yds, ne_eq, not_true_eq_false, not_false_eq_true, ← decide_not, Decidable.not_not, ydt, ydu, ydz, ydv, ydw, List.drop_zero, eq_self, Bool.false_eq_true, List.getElem?_toArray, yea, yeb, List.nil_append, List.cons_append, Bool.false_and, Int.reduceEq, Int.reduceLT, Int.reduceLE, Int.reduceNe, zbc, zbb, yec, yed, yee, yef, ydx, ydy, c1, e1, e2, e3, e4, g1, g2, Int.toNat_natCast, q1, q2, q3, tk6, ls6, happ2, hc, e5, e6, c2]
        refine ⟨m - i, by omega, i, m, by omega, by omega, rfl, rfl, rfl, h1, ?_⟩
        intro m' y hm' hy
        have := hs m m' x y (by omega) hx hy
        omega
    · have hij : i = j := by omega
      subst hij
      by_cases c3 : (i : Int) < (l.length : Int)
      · obtain ⟨x, hx⟩ : ∃ x, l[i]? = some x := ⟨_, List.getElem?_eq_getElem (by omega)⟩
        obtain ⟨b, o, w, cs, rfl, rfl, q1, q2, q3, q4⟩ := h i x hx
        have hc := f159 x key H1
        unfold TC.v at hc
        have g1 : (0 : Int) ≤ (i : Int) := by omega
        simp only [↓yaa, ↓yab, ↓yac, ↓yad, ↓yae, ↓yaf, ↓yag, ↓yah, ↓yai, ↓ydb, ↓ydc, ↓ydd, ↓yde, ↓ydf, ↓ydg, ↓yao, ↓yap, ↓ydh, ↓ydi, ↓ydj, ↓ydk, ↓ydl, ↓ydm, ↓ydn, ↓ydo, ↓ydp, ↓yax, yay, yaz, yba, ybb, ybc, ybd, ybe, ybf, ybg, ybh, ybi, ybj, ybk, ybl, ybm, ybn, ybo, ybp, ybq, ybr, ybs, ybt, ybu, ybv, ares, tup, ybw, ybx, yby, argsE, dval, aop, ev, evs, evo, evp, fillL, addrOf, intOf?, ybz, yca, ycb, ycc, ycd, yce, ycf, zah, zag, reduceIte, Nat.reduceEqDiff, ycg, ych, yci, ycj, yck, ycl, ycm, ycn, yco, ycp, ycq, ycr, zap, zao, reduceCtorEq, zbb, zbc, zba, zaz, Nat.reduceAdd, Nat.reduceMul, zaq, zar, eqPtr, zae, zaf, zab, zaa, zac, zad, hload, hstore, zal, zam, Nat.reduceAdd, Nat.reduceLeDiff, zbb, zas, zat, one, zau, zaw, zav, splice, zaj, zak, zab, zaa, ycs, yct, ycu, ycv, ycw, ycx, ycy, ycz, zan, zai, zax, zay, and_self, true_and, and_true, lenV, yda, Nat.le_refl, if_true, ydq, ydr, yds, ne_eq, not_true_eq_false, not_false_eq_true, ← decide_not, Decidable.not_not, ydt, ydu, ydz, ydv, ydw, List.drop_zero, eq_self, Bool.false_eq_true, List.getElem?_toArray, yea, yeb, List.nil_append, List.cons_append, Bool.false_and, Int.reduceEq, Int.reduceLT, Int.reduceLE, Int.reduceNe, zbc, zbb, yec, yed, yee, yef, ydx, ydy, c1, c3, g1, Int.toNat_natCast, q1, q2, q3, tk6, ls6, happ2, hc]
        exact hk i _ hj h1 h2
      · simp only [↓yaa, ↓yab, ↓yac, ↓yad, ↓yae, ↓yaf, ↓yag, ↓yah, ↓yai, ↓ydb, ↓ydc, ↓ydd, ↓yde, ↓ydf, ↓ydg, ↓yao, ↓yap, ↓ydh, ↓ydi, ↓ydj, ↓ydk, ↓ydl, ↓ydm, ↓ydn, ↓ydo, ↓ydp, ↓yax, yay, yaz, yba, ybb, ybc, ybd, ybe, ybf, ybg, ybh, ybi, ybj, ybk, ybl, ybm, ybn, ybo, ybp, ybq, ybr, ybs, ybt, ybu, ybv, ares, tup, ybw, ybx, yby, argsE, dval, aop, ev, evs, evo, evp, fillL, addrOf, intOf?, ybz, yca, ycb, ycc, ycd, yce, ycf, zah, zag, reduceIte, Nat.reduceEqDiff, ycg, ych, yci, ycj, yck, ycl, ycm, ycn, yco, ycp, ycq, ycr, zap, zao, reduceCtorEq, zbb, zbc, zba, zaz, Nat.reduceAdd, Nat.reduceMul, zaq, zar, eqPtr, zae, zaf, zab, zaa, zac, zad, hload, hstore, zal, zam, Nat.reduceAdd, Nat.reduceLeDiff, zbb, zas, zat, one, zau, zaw, zav, splice, zaj, zak, zab, zaa, ycs, yct, ycu, ycv, ycw, ycx, ycy, ycz, zan, zai, zax, zay, and_self, true_and, and_true, lenV, yda, Nat.le_refl, if_true, ydq, ydr, yds, ne_eq, not_true_eq_false, not_false_eq_true, ← decide_not, Decidable.not_not, ydt, ydu, ydz, ydv, ydw, List.drop_zero, eq_self, Bool.false_eq_true, List.getElem?_toArray, yea, yeb, List.nil_append, List.cons_append, Bool.false_and, Int.reduceEq, Int.reduceLT, Int.reduceLE, Int.reduceNe, zbc, zbb, yec, yed, yee, yef, ydx, ydy, c1, c3]
        exact hk i _ hj h1 h2

theorem Tb.Ok.le {t : Tb} (h : t.Ok) : ∀ (j i : Nat) (x y : TC), i ≤ j → t.cs[i]? = some x → t.cs[j]? = some y → x.s ≤ y.s := by
  intro j
  induction j with
  | zero => intro i x y hi hx hy; have : i = 0 := by omega
            subst this; rw [hx] at hy; injection hy with hy; subst hy; omega
  | succ j ih =>
    intro i x y hi hx hy
    by_cases e : i = j + 1
    · subst e; rw [hx] at hy; injection hy with hy; subst hy; omega
    · have hj : j < t.cs.length := by have := (List.getElem?_eq_some_iff.1 hy).1; omega
      have h1 := ih i x _ (by omega) hx (List.getElem?_eq_getElem hj)
      have h2 := h.lt j _ y (List.getElem?_eq_getElem hj) hy
      unfold TC.Lt at h2
      omega

open Classical in
/-- The cell of a slot. -/
noncomputable def Tb.at (t : Tb) (k : Int) : Option TC := if t.Ok ∧ 0 ≤ k then t.cs.find? (fun x => decide (x.s = k.tmod t.len)) else none
def zeroTC : TC := ⟨0, 0, 0, false, 0, 0⟩
def atv (o : Option TC) : Value := .tuple #[(o.getD zeroTC).v, .bool o.isSome]

open Classical in
theorem f142 {H : Heap} {t : Tb} {a : Option Addr} {z : Nat} {k : Int} (h : TI H a z t.cs) {K : Value → Heap → Prop} (hk : ∀ H', Frm [] H H' → K (atv (t.at k)) H') : Op1 (AC tbl 142 [t.v a z, .int .i64 k] H) K := by
  apply AC_wp (F := F142) rfl (by simp [F142]) (.inl rfl)
  have hg : hget (H ++ [some (⟨true, [.int .i64 t.node, .int .i64 t.len, .slice a t.cs.length z]⟩ : Blk)] ++ [some (⟨true, [.int .i64 0, .int .i64 0, .int .i64 0, .bool false, .int .i64 0, .int .i64 0]⟩ : Blk)]) H.length = some (⟨true, [.int .i64 t.node, .int .i64 t.len, .slice a t.cs.length z]⟩ : Blk) := ydx
  have hz : hget (H ++ [some (⟨true, [.int .i64 t.node, .int .i64 t.len, .slice a t.cs.length z]⟩ : Blk)] ++ [some (⟨true, [.int .i64 0, .int .i64 0, .int .i64 0, .bool false, .int .i64 0, .int .i64 0]⟩ : Blk)]) (H.length + 1) = some (⟨true, [.int .i64 0, .int .i64 0, .int .i64 0, .bool false, .int .i64 0, .int .i64 0]⟩ : Blk) := ydv
  have hG := (h.push (some (⟨true, [.int .i64 t.node, .int .i64 t.len, .slice a t.cs.length z]⟩ : Blk))).push (some (⟨true, [.int .i64 0, .int .i64 0, .int .i64 0, .bool false, .int .i64 0, .int .i64 0]⟩ : Blk))
  have f0 : Frm [] H (H ++ [some (⟨true, [.int .i64 t.node, .int .i64 t.len, .slice a t.cs.length z]⟩ : Blk)] ++ [some (⟨true, [.int .i64 0, .int .i64 0, .int .i64 0, .bool false, .int .i64 0, .int .i64 0]⟩ : Blk)]) := ((Frm.refl _ _).push _).push _
  have htv : t.v a z = .agg #[.int .i64 t.node, .int .i64 t.len, .slice a t.cs.length z] := rfl
  rw [htv]
  simp only [F142, ↓yaa, ↓yab, ↓yac, ↓yad, ↓yae, ↓yaf, ↓yag, ↓yah, ↓yai, ↓ydb, ↓ydc, ↓ydd, ↓yde, ↓ydf, ↓ydg, ↓yao, ↓yap, ↓ydh, ↓ydi, ↓ydj, ↓ydk, ↓ydl, ↓ydm, ↓ydn, ↓ydo, ↓ydp, ↓yax, yay, yaz, yba, ybb, ybc, ybd, ybe, ybf, ybg, ybh, ybi, ybj, ybk, ybl, ybm, ybn, ybo, ybp, ybq, ybr, ybs, ybt, ybu, ybv, ares, tup, ybw, ybx, yby, argsE, dval, aop, ev, evs, evo, evp, fillL, addrOf, intOf?, ybz, yca, ycb, ycc, ycd, yce, ycf, zah, zag, reduceIte, Nat.reduceEqDiff, ycg, ych, yci, ycj, yck, ycl, ycm, ycn, yco, ycp, ycq, ycr, zap, zao, reduceCtorEq, zbb, zbc, zba, zaz, Nat.reduceAdd, Nat.reduceMul, zaq, zar, eqPtr, zae, zaf, zab, zaa, zac, zad, hload, hstore, zal, zam, Nat.reduceAdd, Nat.reduceLeDiff, zbb, zas, zat, one, zau, zaw, zav, splice, zaj, zak, zab, zaa, ycs, yct, ycu, ycv, ycw, ycx, ycy, ycz, zan, zai, zax, zay, and_self, true_and, and_true, lenV, yda, Nat.le_refl, if_true, ydq, ydr, yds, ne_eq, not_true_eq_false, not_false_eq_true, ← decide_not, Decidable.not_not, ydt, ydu, ydz, ydv, ydw, List.drop_zero, eq_self, Bool.false_eq_true, List.getElem?_toArray, yea, yeb, List.nil_append, List.cons_append, Bool.false_and, Int.reduceEq, Int.reduceLT, Int.reduceLE, Int.reduceNe, zbc, zbb, yec, yed, yee, yef, ydx, ydy, tk3, ls3]
  generalize H ++ [some (⟨true, [.int .i64 t.node, .int .i64 t.len, .slice a t.cs.length z]⟩ : Blk)] ++ [some (⟨true, [.int .i64 0, .int .i64 0, .int .i64 0, .bool false, .int .i64 0, .int .i64 0]⟩ : Blk)] = G at *
  rw [← htv]
  refine f155 hG fun H1 n f1 hn => ?_
  have gb := f1.gets hg
  have gz := f1.gets hz
  have hT := hG.frame0 f1
  have lz := hget_lt gz
  have ff : ∀ b, Frm [] H (H1.set (H.length + 1) b) := fun b => (f0.then f1).set _ (.inr (by omega))
  by_cases c1 : n = 0
  · have hok := hn.1 c1
    by_cases c2 : k < 0
    · have hat : t.at k = none := by unfold Tb.at; rw [if_neg]; rintro ⟨_, q⟩; omega
      rw [hat] at hk
      simp only [↓yaa, ↓yab, ↓yac, ↓yad, ↓yae, ↓yaf, ↓yag, ↓yah, ↓yai, ↓ydb, ↓ydc, ↓ydd, ↓yde, ↓ydf, ↓ydg, ↓yao, ↓yap, ↓ydh, ↓ydi, ↓ydj, ↓ydk, ↓ydl, ↓ydm, ↓ydn, ↓ydo, ↓ydp, ↓yax, yay, yaz, yba, ybb, ybc, ybd, ybe, ybf, ybg, ybh, ybi, ybj, ybk, ybl, ybm, ybn, ybo, ybp, ybq, ybr, ybs, ybt, ybu, ybv, ares, tup, ybw, ybx, yby, argsE, dval, aop, ev, evs, evo, evp, fillL, addrOf, intOf?, ybz, yca, ycb, ycc, ycd, yce, ycf, zah, zag, reduceIte, Nat.reduceEqDiff, ycg, ych, yci, ycj, yck, ycl, ycm, ycn, yco, ycp, ycq, ycr, zap, zao, reduceCtorEq, zbb, zbc, zba, zaz, Nat.reduceAdd, Nat.reduceMul, zaq, zar, eqPtr, zae, zaf, zab, zaa, zac, zad, hload, hstore, zal, zam, Nat.reduceAdd, Nat.reduceLeDiff, zbb, zas, zat, one, zau, zaw, zav, splice, zaj, zak, zab, zaa, ycs, yct, ycu, ycv, ycw, ycx, ycy, ycz, zan, zai, zax, zay, and_self, true_and, and_true, lenV, yda, Nat.le_refl, if_true, ydq, ydr, yds, ne_eq, not_true_eq_false, not_false_eq_true, ← decide_not, Decidable.not_not, ydt, ydu, ydz, ydv, ydw, List.drop_zero, eq_self, Bool.false_eq_true, List.getElem?_toArray, yea, yeb, List.nil_append, List.cons_append, Bool.false_and, Int.reduceEq, Int.reduceLT, Int.reduceLE, Int.reduceNe, zbc, zbb, yec, yed, yee, yef, ydx, ydy, c1, c2, gz, lz, sz6, tk6, ls6, yen]
      exact hk _ (ff _)
    · have hne : ¬ t.len = 0 := by have := hok.len; omega
      have hrem : binV .rem (.int .i64 k) (.int .i64 t.len) = some (.int .i64 (k.tmod t.len)) := binV_rem _ _ _ hne
      simp only [↓yaa, ↓yab, ↓yac, ↓yad, ↓yae, ↓yaf, ↓yag, ↓yah, ↓yai, ↓ydb, ↓ydc, ↓ydd, ↓yde, ↓ydf, ↓ydg, ↓yao, ↓yap, ↓ydh, ↓ydi, ↓ydj, ↓ydk, ↓ydl, ↓ydm, ↓ydn, ↓ydo, ↓ydp, ↓yax, yay, yaz, yba, ybb, ybc, ybd, ybe, ybf, ybg, ybh, ybi, ybj, ybk, ybl, ybm, ybn, ybo, ybp, ybq, ybr, ybs, ybt, ybu, ybv, ares, tup, ybw, ybx, yby, argsE, dval, aop, ev, evs, evo, evp, fillL, addrOf, intOf?, ybz, yca, ycb, ycc, ycd, yce, ycf, zah, zag, reduceIte, Nat.reduceEqDiff, ycg, ych, yci, ycj, yck, ycl, ycm, ycn, yco, ycp, ycq, ycr, zap, zao, reduceCtorEq, zbb, zbc, zba, zaz, Nat.reduceAdd, Nat.reduceMul, zaq, zar, eqPtr, zae, zaf, zab, zaa, zac, zad, hload, hstore, zal, zam, Nat.reduceAdd, Nat.reduceLeDiff, zbb, zas, zat, one, zau, zaw, zav, splice, zaj, zak, zab, zaa, ycs, yct, ycu, ycv, ycw, ycx, ycy, ycz, zan, zai, zax, zay, and_self, true_and, and_true, lenV, yda, Nat.le_refl, if_true, ydq, ydr, yds, ne_eq, not_true_eq_false, not_false_eq_true, ← decide_not, Decidable.not_not, ydt, ydu, ydz, ydv, ydw, List.drop_zero, eq_self, Bool.false_eq_true, List.getElem?_toArray, yea, yeb, List.nil_append, List.cons_append, Bool.false_and, Int.reduceEq, Int.reduceLT, Int.reduceLE, Int.reduceNe, zbc, zbb, yec, yed, yee, yef, ydx, ydy, c1, c2, gb, hrem]
      refine f158 hT hok.few (fun i j x y => hok.le j i x y) fun i f hi h1 h2 => ?_
      have hatd : t.at k = t.cs.find? (fun x => decide (x.s = k.tmod t.len)) := by unfold Tb.at; rw [if_pos ⟨hok, by omega⟩]
      by_cases c3 : (i : Int) < (t.cs.length : Int)
      · obtain ⟨x, hx⟩ : ∃ x, t.cs[i]? = some x := ⟨_, List.getElem?_eq_getElem (by omega)⟩
        obtain ⟨b, o, w, cs, rfl, rfl, q1, q2, q3, q4⟩ := hT i x hx
        have g1 : (0 : Int) ≤ (i : Int) := by omega
        by_cases c4 : x.s = k.tmod t.len
        · have hat : t.at k = some x := by rw [hatd]; exact find_at (fun m y hm hy => by have := h1 m y hm hy; omega) hx c4
          rw [hat] at hk
          have c4' := decide_eq_true c4
          simp only [↓yaa, ↓yab, ↓yac, ↓yad, ↓yae, ↓yaf, ↓yag, ↓yah, ↓yai, ↓ydb, ↓ydc, ↓ydd, ↓yde, ↓ydf, ↓ydg, ↓yao, ↓yap, ↓ydh, ↓ydi, ↓ydj, ↓ydk, ↓ydl, ↓ydm, ↓ydn, ↓ydo, ↓ydp, ↓yax, yay, yaz, yba, ybb, ybc, ybd, ybe, ybf, ybg, ybh, ybi, ybj, ybk, ybl, ybm, ybn, ybo, ybp, ybq, ybr, ybs, ybt, ybu, ybv, ares, tup, ybw, ybx, yby, argsE, dval, aop, ev, evs, evo, evp, fillL, addrOf, intOf?, ybz, yca, ycb, ycc, ycd, yce, ycf, zah, zag, reduceIte, Nat.reduceEqDiff, ycg, ych, yci, ycj, yck, ycl, ycm, ycn, yco, ycp, ycq, ycr, zap, zao, reduceCtorEq, zbb, zbc, zba, zaz, Nat.reduceAdd, Nat.reduceMul, zaq, zar, eqPtr, zae, zaf, zab, zaa, zac, zad, hload, hstore, zal, zam, Nat.reduceAdd, Nat.reduceLeDiff, zbb, zas, zat, one, zau, zaw, zav, splice, zaj, zak, zab, zaa, ycs, yct, ycu, ycv, ycw, ycx, ycy, ycz, zan, zai, zax, zay, and_self, true_and, and_true, lenV, yda, Nat.le_refl, if_true, ydq, ydr, yds, ne_eq, not_true_eq_false, not_false_eq_true, ← decide_not, Decidable.not_not, ydt, ydu, ydz, ydv, ydw, List.drop_zero, eq_self, Bool.false_eq_true, List.getElem?_toArray, yea, yeb, List.nil_append, List.cons_append, Bool.false_and, Int.reduceEq, Int.reduceLT, Int.reduceLE, Int.reduceNe, zbc, zbb, yec, yed, yee, yef, ydx, ydy, c1, c2, c3, gb, hrem, g1, Int.toNat_natCast, q1, q2, q3, q4, tk6, ls6, c4', gz, lz, sz6, yen]
          exact hk _ (ff _)
        · have hat : t.at k = none := by
            rw [hatd]
            refine find_no fun m y hy => ?_
            by_cases hm : m < i
            · have := h1 m y hm hy; omega
            · have := hok.le m i x y (by omega) hx hy
              have := h2 i x (by omega) hx
              omega
          rw [hat] at hk
          have c4' := decide_eq_false c4
          simp only [↓yaa, ↓yab, ↓yac, ↓yad, ↓yae, ↓yaf, ↓yag, ↓yah, ↓yai, ↓ydb, ↓ydc, ↓ydd, ↓yde, ↓ydf, ↓ydg, ↓yao, ↓yap, ↓ydh, ↓ydi, ↓ydj, ↓ydk, ↓ydl, ↓ydm, ↓ydn, ↓ydo, ↓ydp, ↓yax, yay, yaz, yba, ybb, ybc, ybd, ybe, ybf, ybg, ybh, ybi, ybj, ybk, ybl, ybm, ybn, ybo, ybp, ybq, ybr, ybs, ybt, ybu, ybv, ares, tup, ybw, ybx, yby, argsE, dval, aop, ev, evs, evo, evp, fillL, addrOf, intOf?, ybz, yca, ycb, ycc, ycd, yce, ycf, zah, zag, reduceIte, Nat.reduceEqDiff, ycg, ych, yci, ycj, yck, ycl, ycm, ycn, yco, ycp, ycq, ycr, zap, zao, reduceCtorEq, zbb, zbc, zba, zaz, Nat.reduceAdd, Nat.reduceMul, zaq, zar, eqPtr, zae, zaf, zab, zaa, zac, zad, hload, hstore, zal, zam, Nat.reduceAdd, Nat.reduceLeDiff, zbb, zas, zat, one, zau, zaw, zav, splice, zaj, zak, zab, zaa, ycs, yct, ycu, ycv, ycw, ycx, ycy, ycz, zan, zai, zax, zay, and_self, true_and, and_true, lenV, yda, Nat.le_refl, if_true, ydq, ydr, yds, ne_eq, not_true_eq_false, not_false_eq_true, ← decide_not, Decidable.not_not, ydt, ydu, ydz, ydv, ydw, List.drop_zero, eq_self, Bool.false_eq_true, List.getElem?_toArray, yea, yeb, List.nil_append, List.cons_append, Bool.false_and, Int.reduceEq, Int.reduceLT, Int.reduceLE, Int.reduceNe, zbc, zbb, yec, yed, yee, yef, ydx, ydy, c1, c2, c3, gb, hrem, g1, Int.toNat_natCast, q1, q2, q3, q4, tk6, ls6, c4', gz, lz, sz6, yen]
          exact hk _ (ff _)
      · have hat : t.at k = none := by
          rw [hatd]
          refine find_no fun m y hy => ?_
          have := h1 m y (by have := (List.getElem?_eq_some_iff.1 hy).1; omega) hy
          omega
        rw [hat] at hk
        simp only [↓yaa, ↓yab, ↓yac, ↓yad, ↓yae, ↓yaf, ↓yag, ↓yah, ↓yai, ↓ydb, ↓ydc, ↓ydd, ↓yde, ↓ydf, ↓ydg, ↓yao, ↓yap, ↓ydh, ↓ydi, ↓ydj, ↓ydk, ↓ydl, ↓ydm, ↓ydn, ↓ydo, ↓ydp, ↓yax, yay, yaz, yba, ybb, ybc, ybd, ybe, ybf, ybg, ybh, ybi, ybj, ybk, ybl, ybm, ybn, ybo, ybp, ybq, ybr, ybs, ybt, ybu, ybv, ares, tup, ybw, ybx, yby, argsE, dval, aop, ev, evs, evo, evp, fillL, addrOf, intOf?, ybz, yca, ycb, ycc, ycd, yce, ycf, zah, zag, reduceIte, Nat.reduceEqDiff, ycg, ych, yci, ycj, yck, ycl, ycm, ycn, yco, ycp, ycq, ycr, zap, zao, reduceCtorEq, zbb, zbc, zba, zaz, Nat.reduceAdd, Nat.reduceMul, zaq, zar, eqPtr, zae, zaf, zab, zaa, zac, zad, hload, hstore, zal, zam, Nat.reduceAdd, Nat.reduceLeDiff, zbb, zas, zat, one, zau, zaw, zav, splice, zaj, zak, zab, zaa, ycs, yct, ycu, ycv, ycw, ycx, ycy, ycz, zan, zai, zax, zay, and_self, true_and, and_true, lenV, yda, Nat.le_refl, if_true, ydq, ydr, yds, ne_eq, not_true_eq_false, not_false_eq_true, ← decide_not, Decidable.not_not, ydt, ydu, ydz, ydv, ydw, List.drop_zero, eq_self, Bool.false_eq_true, List.getElem?_toArray, yea, yeb, List.nil_append, List.cons_append, Bool.false_and, Int.reduceEq, Int.reduceLT, Int.reduceLE, Int.reduceNe, zbc, zbb, yec, yed, yee, yef, ydx, ydy, c1, c2, c3, gb, gz, lz, sz6, tk6, ls6, yen]
        exact hk _ (ff _)
  · have hat : t.at k = none := by unfold Tb.at; rw [if_neg]; rintro ⟨q, _⟩; exact c1 (hn.2 q)
    rw [hat] at hk
    simp only [↓yaa, ↓yab, ↓yac, ↓yad, ↓yae, ↓yaf, ↓yag, ↓yah, ↓yai, ↓ydb, ↓ydc, ↓ydd, ↓yde, ↓ydf, ↓ydg, ↓yao, ↓yap, ↓ydh, ↓ydi, ↓ydj, ↓ydk, ↓ydl, ↓ydm, ↓ydn, ↓ydo, ↓ydp, ↓yax, yay, yaz, yba, ybb, ybc, ybd, ybe, ybf, ybg, ybh, ybi, ybj, ybk, ybl, ybm, ybn, ybo, ybp, ybq, ybr, ybs, ybt, ybu, ybv, ares, tup, ybw, ybx, yby, argsE, dval, aop, ev, evs, evo, evp, fillL, addrOf, intOf?, ybz, yca, ycb, ycc, ycd, yce, ycf, zah, zag, reduceIte, Nat.reduceEqDiff, ycg, ych, yci, ycj, yck, ycl, ycm, ycn, yco, ycp, ycq, ycr, zap, zao, reduceCtorEq, zbb, zbc, zba, zaz, Nat.reduceAdd, Nat.reduceMul, zaq, zar, eqPtr, zae, zaf, zab, zaa, zac, zad, hload, hstore, zal, zam, Nat.reduceAdd, Nat.reduceLeDiff, zbb, zas, zat, one, zau, zaw, zav, splice, zaj, zak, zab, zaa, ycs, yct, ycu, ycv, ycw, ycx, ycy, ycz, zan, zai, zax, zay, and_self, true_and, and_true, lenV, yda, Nat.le_refl, if_true, ydq, ydr, yds, ne_eq, not_true_eq_false, not_false_eq_true, ← decide_not, Decidable.not_not, ydt, ydu, ydz, ydv, ydw, List.drop_zero, eq_self, Bool.false_eq_true, List.getElem?_toArray, yea, yeb, List.nil_append, List.cons_append, Bool.false_and, Int.reduceEq, Int.reduceLT, Int.reduceLE, Int.reduceNe, zbc, zbb, yec, yed, yee, yef, ydx, ydy, c1, gz, lz, sz6, tk6, ls6, yen]
    exact hk _ (ff _)

open Classical in
theorem f143 {H : Heap} {t : Tb} {a : Option Addr} {z : Nat} {k : Int} (h : TI H a z t.cs) {K : Value → Heap → Prop} (hk : ∀ H', Frm [] H H' → K (atv (t.at k)) H') : Op1 (AC tbl 143 [t.v a z, .int .i64 k] H) K := by
  apply AC_wp (F := F143) rfl (by simp [F143]) (.inl rfl)
  have hg : hget (H ++ [some (⟨true, [.int .i64 t.node, .int .i64 t.len, .slice a t.cs.length z]⟩ : Blk)] ++ [some (⟨true, [.int .i64 0, .int .i64 0, .int .i64 0, .bool false, .int .i64 0, .int .i64 0]⟩ : Blk)]) H.length = some (⟨true, [.int .i64 t.node, .int .i64 t.len, .slice a t.cs.length z]⟩ : Blk) := ydx
  have hz : hget (H ++ [some (⟨true, [.int .i64 t.node, .int .i64 t.len, .slice a t.cs.length z]⟩ : Blk)] ++ [some (⟨true, [.int .i64 0, .int .i64 0, .int .i64 0, .bool false, .int .i64 0, .int .i64 0]⟩ : Blk)]) (H.length + 1) = some (⟨true, [.int .i64 0, .int .i64 0, .int .i64 0, .bool false, .int .i64 0, .int .i64 0]⟩ : Blk) := ydv
  have hG := (h.push (some (⟨true, [.int .i64 t.node, .int .i64 t.len, .slice a t.cs.length z]⟩ : Blk))).push (some (⟨true, [.int .i64 0, .int .i64 0, .int .i64 0, .bool false, .int .i64 0, .int .i64 0]⟩ : Blk))
  have f0 : Frm [] H (H ++ [some (⟨true, [.int .i64 t.node, .int .i64 t.len, .slice a t.cs.length z]⟩ : Blk)] ++ [some (⟨true, [.int .i64 0, .int .i64 0, .int .i64 0, .bool false, .int .i64 0, .int .i64 0]⟩ : Blk)]) := ((Frm.refl _ _).push _).push _
  have htv : t.v a z = .agg #[.int .i64 t.node, .int .i64 t.len, .slice a t.cs.length z] := rfl
  rw [htv]
  simp only [F143, ↓yaa, ↓yab, ↓yac, ↓yad, ↓yae, ↓yaf, ↓yag, ↓yah, ↓yai, ↓ydb, ↓ydc, ↓ydd, ↓yde, ↓ydf, ↓ydg, ↓yao, ↓yap, ↓ydh, ↓ydi, ↓ydj, ↓ydk, ↓ydl, ↓ydm, ↓ydn, ↓ydo, ↓ydp, ↓yax, yay, yaz, yba, ybb, ybc, ybd, ybe, ybf, ybg, ybh, ybi, ybj, ybk, ybl, ybm, ybn, ybo, ybp, ybq, ybr, ybs, ybt, ybu, ybv, ares, tup, ybw, ybx, yby, argsE, dval, aop, ev, evs, evo, evp, fillL, addrOf, intOf?, ybz, yca, ycb, ycc, ycd, yce, ycf, zah, zag, reduceIte, Nat.reduceEqDiff, ycg, ych, yci, ycj, yck, ycl, ycm, ycn, yco, ycp, ycq, ycr, zap, zao, reduceCtorEq, zbb, zbc, zba, zaz, Nat.reduceAdd, Nat.reduceMul, zaq, zar, eqPtr, zae, zaf, zab, zaa, zac, zad, hload, hstore, zal, zam, Nat.reduceAdd, Nat.reduceLeDiff, zbb, zas, zat, one, zau, zaw, zav, splice, zaj, zak, zab, zaa, ycs, yct, ycu, ycv, ycw, ycx, ycy, ycz, zan, zai, zax, zay, and_self, true_and, and_true, lenV, yda, Nat.le_refl, if_true, ydq, ydr, yds, ne_eq, not_true_eq_false, not_false_eq_true, ← decide_not, Decidable.not_not, ydt, ydu, ydz, ydv, ydw, List.drop_zero, eq_self, Bool.false_eq_true, List.getElem?_toArray, yea, yeb, List.nil_append, List.cons_append, Bool.false_and, Int.reduceEq, Int.reduceLT, Int.reduceLE, Int.reduceNe, zbc, zbb, yec, yed, yee, yef, ydx, ydy, tk3, ls3]
  generalize H ++ [some (⟨true, [.int .i64 t.node, .int .i64 t.len, .slice a t.cs.length z]⟩ : Blk)] ++ [some (⟨true, [.int .i64 0, .int .i64 0, .int .i64 0, .bool false, .int .i64 0, .int .i64 0]⟩ : Blk)] = G at *
  rw [← htv]
  refine f141 hG fun H1 n f1 hn => ?_
  have gb := f1.gets hg
  have gz := f1.gets hz
  have hT := hG.frame0 f1
  have lz := hget_lt gz
  have ff : ∀ b, Frm [] H (H1.set (H.length + 1) b) := fun b => (f0.then f1).set _ (.inr (by omega))
  by_cases c1 : n = 0
  · have hok := hn.1 c1
    by_cases c2 : k < 0
    · have hat : t.at k = none := by unfold Tb.at; rw [if_neg]; rintro ⟨_, q⟩; omega
      rw [hat] at hk
      simp only [↓yaa, ↓yab, ↓yac, ↓yad, ↓yae, ↓yaf, ↓yag, ↓yah, ↓yai, ↓ydb, ↓ydc, ↓ydd, ↓yde, ↓ydf, ↓ydg, ↓yao, ↓yap, ↓ydh, ↓ydi, ↓ydj, ↓ydk, ↓ydl, ↓ydm, ↓ydn, ↓ydo, ↓ydp, ↓yax, yay, yaz, yba, ybb, ybc, ybd, ybe, ybf, ybg, ybh, ybi, ybj, ybk, ybl, ybm, ybn, ybo, ybp, ybq, ybr, ybs, ybt, ybu, ybv, ares, tup, ybw, ybx, yby, argsE, dval, aop, ev, evs, evo, evp, fillL, addrOf, intOf?, ybz, yca, ycb, ycc, ycd, yce, ycf, zah, zag, reduceIte, Nat.reduceEqDiff, ycg, ych, yci, ycj, yck, ycl, ycm, ycn, yco, ycp, ycq, ycr, zap, zao, reduceCtorEq, zbb, zbc, zba, zaz, Nat.reduceAdd, Nat.reduceMul, zaq, zar, eqPtr, zae, zaf, zab, zaa, zac, zad, hload, hstore, zal, zam, Nat.reduceAdd, Nat.reduceLeDiff, zbb, zas, zat, one, zau, zaw, zav, splice, zaj, zak, zab, zaa, ycs, yct, ycu, ycv, ycw, ycx, ycy, ycz, zan, zai, zax, zay, and_self, true_and, and_true, lenV, yda, Nat.le_refl, if_true, ydq, ydr, yds, ne_eq, not_true_eq_false, not_false_eq_true, ← decide_not, Decidable.not_not, ydt, ydu, ydz, ydv, ydw, List.drop_zero, eq_self, Bool.false_eq_true, List.getElem?_toArray, yea, yeb, List.nil_append, List.cons_append, Bool.false_and, Int.reduceEq, Int.reduceLT, Int.reduceLE, Int.reduceNe, zbc, zbb, yec, yed, yee, yef, ydx, ydy, c1, c2, gz, lz, sz6, tk6, ls6, yen]
      exact hk _ (ff _)
    · have hne : ¬ t.len = 0 := by have := hok.len; omega
      have hrem : binV .rem (.int .i64 k) (.int .i64 t.len) = some (.int .i64 (k.tmod t.len)) := binV_rem _ _ _ hne
      have hatd : t.at k = t.cs.find? (fun x => decide (x.s = k.tmod t.len)) := by unfold Tb.at; rw [if_pos ⟨hok, by omega⟩]
      have hfew := hok.few
      simp only [↓yaa, ↓yab, ↓yac, ↓yad, ↓yae, ↓yaf, ↓yag, ↓yah, ↓yai, ↓ydb, ↓ydc, ↓ydd, ↓yde, ↓ydf, ↓ydg, ↓yao, ↓yap, ↓ydh, ↓ydi, ↓ydj, ↓ydk, ↓ydl, ↓ydm, ↓ydn, ↓ydo, ↓ydp, ↓yax, yay, yaz, yba, ybb, ybc, ybd, ybe, ybf, ybg, ybh, ybi, ybj, ybk, ybl, ybm, ybn, ybo, ybp, ybq, ybr, ybs, ybt, ybu, ybv, ares, tup, ybw, ybx, yby, argsE, dval, aop, ev, evs, evo, evp, fillL, addrOf, intOf?, ybz, yca, ycb, ycc, ycd, yce, ycf, zah, zag, reduceIte, Nat.reduceEqDiff, ycg, ych, yci, ycj, yck, ycl, ycm, ycn, yco, ycp, ycq, ycr, zap, zao, reduceCtorEq, zbb, zbc, zba, zaz, Nat.reduceAdd, Nat.reduceMul, zaq, zar, eqPtr, zae, zaf, zab, zaa, zac, zad, hload, hstore, zal, zam, Nat.reduceAdd, Nat.reduceLeDiff, zbb, zas, zat, one, zau, zaw, zav, splice, zaj, zak, zab, zaa, ycs, yct, ycu, ycv, ycw, ycx, ycy, ycz, zan, zai, zax, zay, and_self, true_and, and_true, lenV, yda, Nat.le_refl, if_true, ydq, ydr, yds, ne_eq, not_true_eq_false, not_false_eq_true, ← decide_not, Decidable.not_not, ydt, ydu, ydz, ydv, ydw, List.drop_zero, eq_self, Bool.false_eq_true, List.getElem?_toArray, yea, yeb, List.nil_append, List.cons_append, Bool.false_and, Int.reduceEq, Int.reduceLT, Int.reduceLE, Int.reduceNe, zbc, zbb, yec, yed, yee, yef, ydx, ydy, c1, c2]
      apply AW_loop_inv (fun k' e H2 => ∃ i : Nat, i + k' = t.cs.length ∧ e = [(1, .int .i64 k), (2, .pointer (some ⟨H.length, 0, none⟩)), (4, .pointer (some ⟨H.length + 1, 0, none⟩)), (6, .int .i64 (i : Int))] ∧ H2 = H1 ∧ (∀ (m : Nat) (x : TC), m < i → t.cs[m]? = some x → x.s ≠ k.tmod t.len)) _ t.cs.length
      · exact ⟨0, by omega, rfl, rfl, fun m x hm => by omega⟩
      · rintro k' e H2 ⟨i, hik, rfl, rfl, h1⟩
        cases k' with
        | zero =>
          have g0 : ¬ (i : Int) < (t.cs.length : Int) := by omega
          have hat : t.at k = none := by
            rw [hatd]
            exact find_no fun m y hy => h1 m y (by have := (List.getElem?_eq_some_iff.1 hy).1; omega) hy
          rw [hat] at hk
          simp only [↓yaa, ↓yab, ↓yac, ↓yad, ↓yae, ↓yaf, ↓yag, ↓yah, ↓yai, ↓ydb, ↓ydc, ↓ydd, ↓yde, ↓ydf, ↓ydg, ↓yao, ↓yap, ↓ydh, ↓ydi, ↓ydj, ↓ydk, ↓ydl, ↓ydm, ↓ydn, ↓ydo, ↓ydp, ↓yax, yay, yaz, yba, ybb, ybc, ybd, ybe, ybf, ybg, ybh, ybi, ybj, ybk, ybl, ybm, ybn, ybo, ybp, ybq, ybr, ybs, ybt, ybu, ybv, ares, tup, ybw, ybx, yby, argsE, dval, aop, ev, evs, evo, evp, fillL, addrOf, intOf?, ybz, yca, ycb, ycc, ycd, yce, ycf, zah, zag, reduceIte, Nat.reduceEqDiff, ycg, ych, yci, ycj, yck, ycl, ycm, ycn, yco, ycp, ycq, ycr, zap, zao, reduceCtorEq, zbb, zbc, zba, zaz, Nat.reduceAdd, Nat.reduceMul, zaq, zar, eqPtr, zae, zaf, zab, zaa, zac, zad, hload, hstore, zal, zam, Nat.reduceAdd, Nat.reduceLeDiff, zbb, zas, zat, one, zau, zaw, zav, splice, zaj, zak, zab, zaa, ycs, yct, ycu, ycv, ycw, ycx, ycy, ycz, zan, zai, zax, zay, and_self, true_and, and_true, lenV, yda, Nat.le_refl, if_true, ydq, ydr, yds, ne_eq, not_true_eq_false, not_false_eq_true, ← decide_not, Decidable.not_not, ydt, ydu, ydz, ydv, ydw, List.drop_zero, eq_self, Bool.false_eq_true, List.getElem?_toArray, yea, yeb, List.nil_append, List.cons_append, Bool.false_and, Int.reduceEq, Int.reduceLT, Int.reduceLE, Int.reduceNe, zbc, zbb, yec, yed, yee, yef, ydx, ydy, g0, gb, gz, lz, sz6, tk6, ls6, yen]
          exact hk _ (ff _)
        | succ k' =>
          have g0 : (i : Int) < (t.cs.length : Int) := by omega
          have g1 : (0 : Int) ≤ (i : Int) := by omega
          have g3 : IntKind.i64.wrap ((i : Int) + 1) = ((i + 1 : Nat) : Int) := by rw [wrap_i64 (by omega) (by omega)]; omega
          obtain ⟨x, hx⟩ : ∃ x, t.cs[i]? = some x := ⟨_, List.getElem?_eq_getElem (by omega)⟩
          obtain ⟨b, o, w, cs, rfl, rfl, q1, q2, q3, q4⟩ := hT i x hx
          by_cases c4 : x.s = k.tmod t.len
          · have hat : t.at k = some x := by rw [hatd]; exact find_at h1 hx c4
            rw [hat] at hk
            have c4' := decide_eq_true c4
            simp only [↓yaa, ↓yab, ↓yac, ↓yad, ↓yae, ↓yaf, ↓yag, ↓yah, ↓yai, ↓ydb, ↓ydc, ↓ydd, ↓yde, ↓ydf, ↓ydg, ↓yao, ↓yap, ↓ydh, ↓ydi, ↓ydj, ↓ydk, ↓ydl, ↓ydm, ↓ydn, ↓ydo, ↓ydp, ↓yax, yay, yaz, yba, ybb, ybc, ybd, ybe, ybf, ybg, ybh, ybi, ybj, ybk, ybl, ybm, ybn, ybo, ybp, ybq, ybr, ybs, ybt, ybu, ybv, ares, tup, ybw, ybx, yby, argsE, dval, aop, ev, evs, evo, evp, fillL, addrOf, intOf?, ybz, yca, ycb, ycc, ycd, yce, ycf, zah, zag, reduceIte, Nat.reduceEqDiff, ycg, ych, yci, ycj, yck, ycl, ycm, ycn, yco, ycp, ycq, ycr, zap, zao, reduceCtorEq, zbb, zbc, zba, zaz, Nat.reduceAdd, Nat.reduceMul, zaq, zar, eqPtr, zae, zaf, zab, zaa, zac, zad, hload, hstore, zal, zam, Nat.reduceAdd, Nat.reduceLeDiff, zbb, zas, zat, one, zau, zaw, zav, splice, zaj, zak, zab, zaa, ycs, yct, ycu, ycv, ycw, ycx, ycy, ycz, zan, zai, zax, zay, and_self, true_and, and_true, lenV, yda, Nat.le_refl, if_true, ydq, ydr, yds, ne_eq, not_true_eq_false, not_false_eq_true, ← decide_not, Decidable.not_not, ydt, ydu, ydz, ydv, ydw, List.drop_zero, eq_self, Bool.false_eq_true, List.getElem?_toArray, yea, yeb, List.nil_append, List.cons_append, Bool.false_and, Int.reduceEq, Int.reduceLT, Int.reduceLE, Int.reduceNe, zbc, zbb, yec, yed, yee, yef, ydx, ydy, g0, g1, gb, hrem, Int.toNat_natCast, q1, q2, q3, q4, tk6, ls6, c4', gz, lz, sz6, yen]
            exact hk _ (ff _)
          · have c4' := decide_eq_false c4
            simp only [↓yaa, ↓yab, ↓yac, ↓yad, ↓yae, ↓yaf, ↓yag, ↓yah, ↓yai, ↓ydb, ↓ydc, ↓ydd, ↓yde, ↓ydf, ↓ydg, ↓yao, ↓yap, ↓ydh, ↓ydi, ↓ydj, ↓ydk, ↓ydl, ↓ydm, ↓ydn, ↓ydo, ↓ydp, ↓yax, yay, yaz, yba, ybb, ybc, ybd, ybe, ybf, ybg, ybh, ybi, ybj, ybk, ybl, ybm, ybn, ybo, ybp, ybq, ybr, ybs, ybt, ybu, ybv, ares, tup, ybw, ybx, yby, argsE, dval, aop, ev, evs, evo, evp, fillL, addrOf, intOf?, ybz, yca, ycb, ycc, ycd, yce, ycf, zah, zag, reduceIte, Nat.reduceEqDiff, ycg, ych, yci, ycj, yck, ycl, ycm, ycn, yco, ycp, ycq, ycr, zap, zao, reduceCtorEq, zbb, zbc, zba, zaz, Nat.reduceAdd, Nat.reduceMul, zaq, zar, eqPtr, zae, zaf, zab, zaa, zac, zad, hload, hstore, zal, zam, Nat.reduceAdd, Nat.reduceLeDiff, zbb, zas, zat, one, zau, zaw, zav, splice, zaj, zak, zab, zaa, ycs, yct, ycu, ycv, ycw, ycx, ycy, ycz, zan, zai, zax, zay, and_self, true_and, and_true, lenV, yda, Nat.le_refl, if_true, ydq, ydr, yds, ne_eq, not_true_eq_false, not_false_eq_true, ← decide_not, Decidable.not_not, ydt, ydu, ydz, ydv, ydw, List.drop_zero, eq_self, Bool.false_eq_true, List.getElem?_toArray, yea, yeb, List.nil_append, List.cons_append, Bool.false_and, Int.reduceEq, Int.reduceLT, Int.reduceLE, Int.reduceNe, zbc, zbb, yec, yed, yee, yef, ydx, ydy, g0, g1, g3, gb, hrem, Int.toNat_natCast, q1, q2, q3, q4, tk6, ls6, c4']
            refine ⟨k', by omega, i + 1, by omega, rfl, rfl, ?_⟩
            intro m y hm hy
            by_cases e : m = i
            · subst e; rw [hx] at hy; injection hy with hy; subst hy; exact c4
            · exact h1 m y (by omega) hy
  · have hat : t.at k = none := by unfold Tb.at; rw [if_neg]; rintro ⟨q, _⟩; exact c1 (hn.2 q)
    rw [hat] at hk
    simp only [↓yaa, ↓yab, ↓yac, ↓yad, ↓yae, ↓yaf, ↓yag, ↓yah, ↓yai, ↓ydb, ↓ydc, ↓ydd, ↓yde, ↓ydf, ↓ydg, ↓yao, ↓yap, ↓ydh, ↓ydi, ↓ydj, ↓ydk, ↓ydl, ↓ydm, ↓ydn, ↓ydo, ↓ydp, ↓yax, yay, yaz, yba, ybb, ybc, ybd, ybe, ybf, ybg, ybh, ybi, ybj, ybk, ybl, ybm, ybn, ybo, ybp, ybq, ybr, ybs, ybt, ybu, ybv, ares, tup, ybw, ybx, yby, argsE, dval, aop, ev, evs, evo, evp, fillL, addrOf, intOf?, ybz, yca, ycb, ycc, ycd, yce, ycf, zah, zag, reduceIte, Nat.reduceEqDiff, ycg, ych, yci, ycj, yck, ycl, ycm, ycn, yco, ycp, ycq, ycr, zap, zao, reduceCtorEq, zbb, zbc, zba, zaz, Nat.reduceAdd, Nat.reduceMul, zaq, zar, eqPtr, zae, zaf, zab, zaa, zac, zad, hload, hstore, zal, zam, Nat.reduceAdd, Nat.reduceLeDiff, zbb, zas, zat, one, zau, zaw, zav, splice, zaj, zak, zab, zaa, ycs, yct, ycu, ycv, ycw, ycx, ycy, ycz, zan, zai, zax, zay, and_self, true_and, and_true, lenV, yda, Nat.le_refl, if_true, ydq, ydr, yds, ne_eq, not_true_eq_false, not_false_eq_true, ← decide_not, Decidable.not_not, ydt, ydu, ydz, ydv, ydw, List.drop_zero, eq_self, Bool.false_eq_true, List.getElem?_toArray, yea, yeb, List.nil_append, List.cons_append, Bool.false_and, Int.reduceEq, Int.reduceLT, Int.reduceLE, Int.reduceNe, zbc, zbb, yec, yed, yee, yef, ydx, ydy, c1, gz, lz, sz6, tk6, ls6, yen]
    exact hk _ (ff _)

end Go.Proofs.Ytejcabdejoameaa.AI

/- Whose turn it is in a shared cell. -/
set_option linter.unusedSimpArgs false
set_option linter.unusedVariables false
set_option maxHeartbeats 4000000
namespace Go.Proofs.Ytejcabdejoameaa.AI
open Go

def shr3 (x : TC) : Bool := decide (x.w = 3)
def bef3 (key : Int) (x : TC) : Bool := decide (x.w = 3 ∧ x.s < key)
def hit3 (key : Int) (x : TC) : Prop := x.w = 3 ∧ x.s = key
def Tb.cnt (t : Tb) : Nat := t.cs.countP shr3
def Tb.bef (t : Tb) (key : Int) : Nat := t.cs.countP (bef3 key)
open Classical in
noncomputable def Tb.turn (t : Tb) (k n : Int) : Int × Bool := if (t.Ok ∧ 0 ≤ k ∧ 1 ≤ n ∧ n ≤ 32) ∧ ∃ x ∈ t.cs, hit3 (k.tmod t.len) x then (((k.tdiv t.len).tmod n * (t.cnt : Int) + (t.bef (k.tmod t.len) : Int)).tmod n, true) else (0, false)

theorem take_next {l : List TC} {i : Nat} {x : TC} (h : l[i]? = some x) : l.take (i + 1) = l.take i ++ [x] := by
  rw [List.take_add_one, h]; rfl
theorem count_next {l : List TC} {i : Nat} {x : TC} (p : TC → Bool) (h : l[i]? = some x) : (l.take (i + 1)).countP p = (l.take i).countP p + (if p x then 1 else 0) := by
  rw [take_next h, List.countP_append, List.countP_singleton]
theorem count_le {l : List TC} {i : Nat} (p : TC → Bool) : (l.take i).countP p ≤ i := by
  have := List.countP_le_length (p := p) (l := l.take i)
  rw [List.length_take] at this; omega
theorem count_all {l : List TC} {i : Nat} (p : TC → Bool) (h : l.length ≤ i) : (l.take i).countP p = l.countP p := by rw [List.take_of_length_le h]
theorem count_rest {l : List TC} {i : Nat} (p : TC → Bool) (h : ∀ (m : Nat) (x : TC), i ≤ m → l[m]? = some x → p x = false) : l.countP p = (l.take i).countP p := by
  have h2 : (l.drop i).countP p = 0 := by
    rw [List.countP_eq_zero]
    intro x hx
    obtain ⟨m, hm, rfl⟩ := List.getElem_of_mem hx
    rw [List.getElem_drop, h (i + m) _ (by omega) (List.getElem?_eq_getElem (by rw [List.length_drop] at hm; omega))]
    simp
  have h3 := List.countP_append (p := p) (l₁ := l.take i) (l₂ := l.drop i)
  rw [List.take_append_drop, h2] at h3
  omega

theorem turn_wrap {k len n : Int} {c b : Nat} (h0 : 0 ≤ k) (h1 : k < 9223372036854775808) (hl : 1 ≤ len) (hn : 1 ≤ n ∧ n ≤ 32) (hc : c ≤ 512) (hb : b ≤ 512) :
    IntKind.i64.wrap (k.tdiv len) = k.tdiv len ∧ IntKind.i64.wrap ((k.tdiv len).tmod n * (c : Int)) = (k.tdiv len).tmod n * (c : Int) ∧ IntKind.i64.wrap ((k.tdiv len).tmod n * (c : Int) + (b : Int)) = (k.tdiv len).tmod n * (c : Int) + (b : Int) := by
  have d0 : 0 ≤ k.tdiv len := Int.tdiv_nonneg h0 (by omega)
  have d1 : k.tdiv len ≤ k := by rw [Int.tdiv_eq_ediv_of_nonneg h0]; exact Int.ediv_le_self _ h0
  have e0 : 0 ≤ (k.tdiv len).tmod n := Int.tmod_nonneg _ d0
  have e1 : (k.tdiv len).tmod n < n := Int.tmod_lt_of_pos _ (by omega)
  have m0 : 0 ≤ (k.tdiv len).tmod n * (c : Int) := Int.mul_nonneg e0 (by omega)
  have m1 : (k.tdiv len).tmod n * (c : Int) ≤ 32 * 512 := Int.mul_le_mul (by omega) (by omega) (by omega) (by omega)
  exact ⟨wrap_i64 (by omega) (by omega), wrap_i64 (by omega) (by omega), wrap_i64 (by omega) (by omega)⟩

open Classical in
theorem f139 {H : Heap} {t : Tb} {a : Option Addr} {z : Nat} {n : Int} (h : TI H a z t.cs) {K : Value → Heap → Prop} (hk : ∀ H' (b : Bool), Frm [] H H' → (b = true ↔ t.Ok ∧ 1 ≤ n ∧ n ≤ 32) → K (.bool b) H') : Op1 (AC tbl 139 [t.v a z, .int .i64 n] H) K := by
  apply AC_wp (F := F139) rfl (by simp [F139]) (.inl rfl)
  have hg : hget (H ++ [some (⟨true, [.int .i64 t.node, .int .i64 t.len, .slice a t.cs.length z]⟩ : Blk)]) H.length = some (⟨true, [.int .i64 t.node, .int .i64 t.len, .slice a t.cs.length z]⟩ : Blk) := ydu
  have hG := h.push (some (⟨true, [.int .i64 t.node, .int .i64 t.len, .slice a t.cs.length z]⟩ : Blk))
  have f0 : Frm [] H (H ++ [some (⟨true, [.int .i64 t.node, .int .i64 t.len, .slice a t.cs.length z]⟩ : Blk)]) := (Frm.refl _ _).push _
  have htv : t.v a z = .agg #[.int .i64 t.node, .int .i64 t.len, .slice a t.cs.length z] := rfl
  rw [htv]
  simp only [F139, ↓yaa, ↓yab, ↓yac, ↓yad, ↓yae, ↓yaf, ↓yag, ↓yah, ↓yai, ↓ydb, ↓ydc, ↓ydd, ↓yde, ↓ydf, ↓ydg, ↓yao, ↓yap, ↓ydh, ↓ydi, ↓ydj, ↓ydk, ↓ydl, ↓ydm, ↓ydn, ↓ydo, ↓ydp, ↓yax, yay, yaz, yba, ybb, ybc, ybd, ybe, ybf, ybg, ybh, ybi, ybj, ybk, ybl, ybm, ybn, ybo, ybp, ybq, ybr, ybs, ybt, ybu, ybv, ares, tup, ybw, ybx, yby, argsE, dval, aop, ev, evs, evo, evp, fillL, addrOf, intOf?, ybz, yca, ycb, ycc, ycd, yce, ycf, zah, zag, reduceIte, Nat.reduceEqDiff, ycg, ych, yci, ycj, yck, ycl, ycm, ycn, yco, ycp, ycq, ycr, zap, zao, reduceCtorEq, zbb, zbc, zba, zaz, Nat.reduceAdd, Nat.reduceMul, zaq, zar, eqPtr, zae, zaf, zab, zaa, zac, zad, hload, hstore, zal, zam, Nat.reduceAdd, Nat.reduceLeDiff, zbb, zas, zat, one, zau, zaw, zav, splice, zaj, zak, zab, zaa, ycs, yct, ycu, ycv, ycw, ycx, ycy, ycz, zan, zai, zax, zay, and_self, true_and, and_true, lenV, yda, Nat.le_refl, if_true, ydq, ydr, yds, ne_eq, not_true_eq_false, not_false_eq_true, ← decide_not, Decidable.not_not, ydt, ydu, ydz, ydv, ydw, List.drop_zero, eq_self, Bool.false_eq_true, List.getElem?_toArray, yea, yeb, List.nil_append, List.cons_append, Bool.false_and, Int.reduceEq, Int.reduceLT, Int.reduceLE, Int.reduceNe, zbc, zbb, yec, yed, yee, yef, ydx, ydy, tk3, ls3]
  generalize H ++ [some (⟨true, [.int .i64 t.node, .int .i64 t.len, .slice a t.cs.length z]⟩ : Blk)] = G at *
  rw [← htv]
  refine f155 hG fun H1 m f1 hn => ?_
  have ff := f0.then f1
  by_cases c1 : m = 0
  · by_cases c2 : 1 ≤ n
    · by_cases c3 : n ≤ 32
      · simp only [↓yaa, ↓yab, ↓yac, ↓yad, ↓yae, ↓yaf, ↓yag, ↓yah, ↓yai, ↓ydb, ↓ydc, ↓ydd, ↓yde, ↓ydf, ↓ydg, ↓yao, ↓yap, ↓ydh, ↓ydi, ↓ydj, ↓ydk, ↓ydl, ↓ydm, ↓ydn, ↓ydo, ↓ydp, ↓yax, yay, yaz, yba, ybb, ybc, ybd, ybe, ybf, ybg, ybh, ybi, ybj, ybk, ybl, ybm, ybn, ybo, ybp, ybq, ybr, ybs, ybt, ybu, ybv, ares, tup, ybw, ybx, yby, argsE, dval, aop, ev, evs, evo, evp, fillL, addrOf, intOf?, ybz, yca, ycb, ycc, ycd, yce, ycf, zah, zag, reduceIte, Nat.reduceEqDiff, ycg, ych, yci, ycj, yck, ycl, ycm, ycn, yco, ycp, ycq, ycr, zap, zao, reduceCtorEq, zbb, zbc, zba, zaz, Nat.reduceAdd, Nat.reduceMul, zaq, zar, eqPtr, zae, zaf, zab, zaa, zac, zad, hload, hstore, zal, zam, Nat.reduceAdd, Nat.reduceLeDiff, zbb, zas, zat, one, zau, zaw, zav, splice, zaj, zak, zab, zaa, ycs, yct, ycu, ycv, ycw, ycx, ycy, ycz, zan, zai, zax, zay, and_self, true_and, and_true, lenV, yda, Nat.le_refl, if_true, ydq, ydr, yds, ne_eq, not_true_eq_false, not_false_eq_true, ← decide_not, Decidable.not_not, ydt, ydu, ydz, ydv, ydw, List.drop_zero, eq_self, Bool.false_eq_true, List.getElem?_toArray, yea, yeb, List.nil_append, List.cons_append, Bool.false_and, Int.reduceEq, Int.reduceLT, Int.reduceLE, Int.reduceNe, zbc, zbb, yec, yed, yee, yef, ydx, ydy, c1, c2, c3]
        exact hk _ _ ff ⟨fun _ => ⟨hn.1 c1, c2, c3⟩, fun _ => rfl⟩
      · simp only [↓yaa, ↓yab, ↓yac, ↓yad, ↓yae, ↓yaf, ↓yag, ↓yah, ↓yai, ↓ydb, ↓ydc, ↓ydd, ↓yde, ↓ydf, ↓ydg, ↓yao, ↓yap, ↓ydh, ↓ydi, ↓ydj, ↓ydk, ↓ydl, ↓ydm, ↓ydn, ↓ydo, ↓ydp, ↓yax, yay, yaz, yba, ybb, ybc, ybd, ybe, ybf, ybg, ybh, ybi, ybj, ybk, ybl, ybm, ybn, ybo, ybp, ybq, ybr, ybs, ybt, ybu, ybv, ares, tup, ybw, ybx, yby, argsE, dval, aop, ev, evs, evo, evp, fillL, addrOf, intOf?, ybz, yca, ycb, ycc, ycd, yce, ycf, zah, zag, reduceIte, Nat.reduceEqDiff, ycg, ych, yci, ycj, yck, ycl, ycm, ycn, yco, ycp, ycq, ycr, zap, zao, reduceCtorEq, zbb, zbc, zba, zaz, Nat.reduceAdd, Nat.reduceMul, zaq, zar, eqPtr, zae, zaf, zab, zaa, zac, zad, hload, hstore, zal, zam, Nat.reduceAdd, Nat.reduceLeDiff, zbb, zas, zat, one, zau, zaw, zav, splice, zaj, zak, zab, zaa, ycs, yct, ycu, ycv, ycw, ycx, ycy, ycz, zan, zai, zax, zay, and_self, true_and, and_true, lenV, yda, Nat.le_refl, if_true, ydq, ydr, yds, ne_eq, not_true_eq_false, not_false_eq_true, ← decide_not, Decidable.not_not, ydt, ydu, ydz, ydv, ydw, List.drop_zero, eq_self, Bool.false_eq_true, List.getElem?_toArray, yea, yeb, List.nil_append, List.cons_append, Bool.false_and, Int.reduceEq, Int.reduceLT, Int.reduceLE, Int.reduceNe, zbc, zbb, yec, yed, yee, yef, ydx, ydy, c1, c2, c3]
        exact hk _ _ ff ⟨fun q => by simp at q, fun q => absurd q.2.2 c3⟩
    · simp only [↓yaa, ↓yab, ↓yac, ↓yad, ↓yae, ↓yaf, ↓yag, ↓yah, ↓yai, ↓ydb, ↓ydc, ↓ydd, ↓yde, ↓ydf, ↓ydg, ↓yao, ↓yap, ↓ydh, ↓ydi, ↓ydj, ↓ydk, ↓ydl, ↓ydm, ↓ydn, ↓ydo, ↓ydp, ↓yax, yay, yaz, yba, ybb, ybc, ybd, ybe, ybf, ybg, ybh, ybi, ybj, ybk, ybl, ybm, ybn, ybo, ybp, ybq, ybr, ybs, ybt, ybu, ybv, ares, tup, ybw, ybx, yby, argsE, dval, aop, ev, evs, evo, evp, fillL, addrOf, intOf?, ybz, yca, ycb, ycc, ycd, yce, ycf, zah, zag, reduceIte, Nat.reduceEqDiff, ycg, ych, yci, ycj, yck, ycl, ycm, ycn, yco, ycp, ycq, ycr, zap, zao, reduceCtorEq, zbb, zbc, zba, zaz, Nat.reduceAdd, Nat.reduceMul, zaq, zar, eqPtr, zae, zaf, zab, zaa, zac, zad, hload, hstore, zal, zam, Nat.reduceAdd, Nat.reduceLeDiff, zbb, zas, zat, one, zau, zaw, zav, splice, zaj, zak, zab, zaa, ycs, yct, ycu, ycv, ycw, ycx, ycy, ycz, zan, zai, zax, zay, and_self, true_and, and_true, lenV, yda, Nat.le_refl, if_true, ydq, ydr, yds, ne_eq, not_true_eq_false, not_false_eq_true, ← decide_not, Decidable.not_not, ydt, ydu, ydz, ydv, ydw, List.drop_zero, eq_self, Bool.false_eq_true, List.getElem?_toArray, yea, yeb, List.nil_append, List.cons_append, Bool.false_and, Int.reduceEq, Int.reduceLT, Int.reduceLE, Int.reduceNe, zbc, zbb, yec, yed, yee, yef, ydx, ydy, c1, c2]
      exact hk _ _ ff ⟨fun q => by simp at q, fun q => absurd q.2.1 c2⟩
  · simp only [↓yaa, ↓yab, ↓yac, ↓yad, ↓yae, ↓yaf, ↓yag, ↓yah, ↓yai, ↓ydb, ↓ydc, ↓ydd, ↓yde, ↓ydf, ↓ydg, ↓yao, ↓yap, ↓ydh, ↓ydi, ↓ydj, ↓ydk, ↓ydl, ↓ydm, ↓ydn, ↓ydo, ↓ydp, ↓yax, yay, yaz, yba, ybb, ybc, ybd, ybe, ybf, ybg, ybh, ybi, ybj, ybk, ybl, ybm, ybn, ybo, ybp, ybq, ybr, ybs, ybt, ybu, ybv, ares, tup, ybw, ybx, yby, argsE, dval, aop, ev, evs, evo, evp, fillL, addrOf, intOf?, ybz, yca, ycb, ycc, ycd, yce, ycf, zah, zag, reduceIte, Nat.reduceEqDiff, ycg, ych, yci, ycj, yck, ycl, ycm, ycn, yco, ycp, ycq, ycr, zap, zao, reduceCtorEq, zbb, zbc, zba, zaz, Nat.reduceAdd, Nat.reduceMul, zaq, zar, eqPtr, zae, zaf, zab, zaa, zac, zad, hload, hstore, zal, zam, Nat.reduceAdd, Nat.reduceLeDiff, zbb, zas, zat, one, zau, zaw, zav, splice, zaj, zak, zab, zaa, ycs, yct, ycu, ycv, ycw, ycx, ycy, ycz, zan, zai, zax, zay, and_self, true_and, and_true, lenV, yda, Nat.le_refl, if_true, ydq, ydr, yds, ne_eq, not_true_eq_false, not_false_eq_true, ← decide_not, Decidable.not_not, ydt, ydu, ydz, ydv, ydw, List.drop_zero, eq_self, Bool.false_eq_true, List.getElem?_toArray, yea, yeb, List.nil_append, List.cons_append, Bool.false_and, Int.reduceEq, Int.reduceLT, Int.reduceLE, Int.reduceNe, zbc, zbb, yec, yed, yee, yef, ydx, ydy, c1]
    exact hk _ _ ff ⟨fun q => by simp at q, fun q => absurd (hn.2 q.1) c1⟩

theorem f140 {H : Heap} {t : Tb} {a : Option Addr} {z : Nat} (h : TI H a z t.cs) (hl : t.cs.length ≤ 512) {K : Value → Heap → Prop} (hk : ∀ H', Frm [] H H' → hget H' H.length = some (⟨true, [.int .i64 t.node, .int .i64 t.len, .slice a t.cs.length z]⟩ : Blk) → K (.tuple #[.func (.func 156) #[] #[.pointer (some ⟨H.length, 0, none⟩)], .int .i64 (t.cnt : Int)]) H') : Op1 (AC tbl 140 [t.v a z] H) K := by
  apply AC_wp (F := F140) rfl (by simp [F140]) (.inl rfl)
  have hg : hget (H ++ [some (⟨true, [.int .i64 t.node, .int .i64 t.len, .slice a t.cs.length z]⟩ : Blk)]) H.length = some (⟨true, [.int .i64 t.node, .int .i64 t.len, .slice a t.cs.length z]⟩ : Blk) := ydu
  have hG := h.push (some (⟨true, [.int .i64 t.node, .int .i64 t.len, .slice a t.cs.length z]⟩ : Blk))
  have f0 : Frm [] H (H ++ [some (⟨true, [.int .i64 t.node, .int .i64 t.len, .slice a t.cs.length z]⟩ : Blk)]) := (Frm.refl _ _).push _
  have htv : t.v a z = .agg #[.int .i64 t.node, .int .i64 t.len, .slice a t.cs.length z] := rfl
  rw [htv]
  simp only [F140, ↓yaa, ↓yab, ↓yac, ↓yad, ↓yae, ↓yaf, ↓yag, ↓yah, ↓yai, ↓ydb, ↓ydc, ↓ydd, ↓yde, ↓ydf, ↓ydg, ↓yao, ↓yap, ↓ydh, ↓ydi, ↓ydj, ↓ydk, ↓ydl, ↓ydm, ↓ydn, ↓ydo, ↓ydp, ↓yax, yay, yaz, yba, ybb, ybc, ybd, ybe, ybf, ybg, ybh, ybi, ybj, ybk, ybl, ybm, ybn, ybo, ybp, ybq, ybr, ybs, ybt, ybu, ybv, ares, tup, ybw, ybx, yby, argsE, dval, aop, ev, evs, evo, evp, fillL, addrOf, intOf?, ybz, yca, ycb, ycc, ycd, yce, ycf, zah, zag, reduceIte, Nat.reduceEqDiff, ycg, ych, yci, ycj, yck, ycl, ycm, ycn, yco, ycp, ycq, ycr, zap, zao, reduceCtorEq, zbb, zbc, zba, zaz, Nat.reduceAdd, Nat.reduceMul, zaq, zar, eqPtr, zae, zaf, zab, zaa, zac, zad, hload, hstore, zal, zam, Nat.reduceAdd, Nat.reduceLeDiff, zbb, zas, zat, one, zau, zaw, zav, splice, zaj, zak, zab, zaa, ycs, yct, ycu, ycv, ycw, ycx, ycy, ycz, zan, zai, zax, zay, and_self, true_and, and_true, lenV, yda, Nat.le_refl, if_true, ydq, ydr, yds, ne_eq, not_true_eq_false, not_false_eq_true, ← decide_not, Decidable.not_not, ydt, ydu, ydz, ydv, ydw, List.drop_zero, eq_self, Bool.false_eq_true, List.getElem?_toArray, yea, yeb, List.nil_append, List.cons_append, Bool.false_and, Int.reduceEq, Int.reduceLT, Int.reduceLE, Int.reduceNe, zbc, zbb, yec, yed, yee, yef, ydx, ydy, tk3, ls3]
  generalize H ++ [some (⟨true, [.int .i64 t.node, .int .i64 t.len, .slice a t.cs.length z]⟩ : Blk)] = G at *
  apply AW_loop_inv (fun k e H1 => ∃ i : Nat, i + k = t.cs.length ∧ e = [(1, .pointer (some ⟨H.length, 0, none⟩)), (4, .int .i64 (((t.cs.take i).countP shr3 : Nat) : Int)), (8, .slice a t.cs.length z), (9, .int .i64 (t.cs.length : Int)), (10, .int .i64 (i : Int))] ∧ Frm [] G H1) _ t.cs.length
  · exact ⟨0, by omega, rfl, Frm.refl _ _⟩
  · rintro k e H1 ⟨i, hik, rfl, hf⟩
    cases k with
    | zero =>
      have g0 : ¬ (i : Int) < (t.cs.length : Int) := by omega
      have e1 : (t.cs.take i).countP shr3 = t.cnt := count_all _ (by omega)
      rw [e1]
      simp only [↓yaa, ↓yab, ↓yac, ↓yad, ↓yae, ↓yaf, ↓yag, ↓yah, ↓yai, ↓ydb, ↓ydc, ↓ydd, ↓yde, ↓ydf, ↓ydg, ↓yao, ↓yap, ↓ydh, ↓ydi, ↓ydj, ↓ydk, ↓ydl, ↓ydm, ↓ydn, ↓ydo, ↓ydp, ↓yax, yay, yaz, yba, ybb, ybc, ybd, ybe, ybf, ybg, ybh, ybi, ybj, ybk, ybl, ybm, ybn, ybo, ybp, ybq, ybr, ybs, ybt, ybu, ybv, ares, tup, ybw, ybx, yby, argsE, dval, aop, ev, evs, evo, evp, fillL, addrOf, intOf?, ybz, yca, ycb, ycc, ycd, yce, ycf, zah, zag, reduceIte, Nat.reduceEqDiff, ycg, ych, yci, ycj, yck, ycl, ycm, ycn, yco, ycp, ycq, ycr, zap, zao, reduceCtorEq, zbb, zbc, zba, zaz, Nat.reduceAdd, Nat.reduceMul, zaq, zar, eqPtr, zae, zaf, zab, zaa, zac, zad, hload, hstore, zal, zam, Nat.reduceAdd, Nat.reduceLeDiff, zbb, zas, zat, one, zau, zaw, zav, splice, zaj, zak, zab, zaa, ycs, yct, ycu, ycv, ycw, ycx, ycy, ycz, zan, zai, zax, zay, and_self, true_and, and_true, lenV, yda, Nat.le_refl, if_true, ydq, ydr, yds, ne_eq, not_true_eq_false, not_false_eq_true, ← decide_not, Decidable.not_not, ydt, ydu, ydz, ydv, ydw, List.drop_zero, eq_self, Bool.false_eq_true, List.getElem?_toArray, yea, yeb, List.nil_append, List.cons_append, Bool.false_and, Int.reduceEq, Int.reduceLT, Int.reduceLE, Int.reduceNe, zbc, zbb, yec, yed, yee, yef, ydx, ydy, g0]
      exact hk _ (f0.then hf) (hf.gets hg)
    | succ k =>
      obtain ⟨x, hix⟩ : ∃ x, t.cs[i]? = some x := ⟨_, List.getElem?_eq_getElem (by omega)⟩
      obtain ⟨b, o, w, cs, rfl, rfl, q1, q2, q3, q4⟩ := (hG.frame0 hf) i x hix
      have g0 : (i : Int) < (t.cs.length : Int) := by omega
      have g1 : (0 : Int) ≤ (i : Int) := by omega
      have g3 : IntKind.i64.wrap ((i : Int) + 1) = ((i + 1 : Nat) : Int) := by rw [wrap_i64 (by omega) (by omega)]; omega
      have hcn := count_next shr3 hix
      have hle := @count_le t.cs i shr3
      have f1 := hf.push (some (⟨true, [.int .i64 x.s, .int .i64 x.c, .int .i64 x.w, .bool x.b, .int .i64 x.p, .int .i64 x.n]⟩ : Blk))
      by_cases c1 : x.w = 3
      · rw [show shr3 x = true by simp [shr3, c1]] at hcn
        simp only [if_true] at hcn
        have g4 : IntKind.i64.wrap ((((t.cs.take i).countP shr3 : Nat) : Int) + 1) = (((t.cs.take (i + 1)).countP shr3 : Nat) : Int) := by rw [wrap_i64 (by omega) (by omega), hcn]; omega
        have c1' := eq_true c1
        simp only [↓yaa, ↓yab, ↓yac, ↓yad, ↓yae, ↓yaf, ↓yag, ↓yah, ↓yai, ↓ydb, ↓ydc, ↓ydd, ↓yde, ↓ydf, ↓ydg, ↓yao, ↓yap, ↓ydh, ↓ydi, ↓ydj, ↓ydk, ↓ydl, ↓ydm, ↓ydn, ↓ydo, ↓ydp, ↓yax, yay, yaz, yba, ybb, ybc, ybd, ybe, ybf, ybg, ybh, ybi, ybj, ybk, ybl, ybm, ybn, ybo, ybp, ybq, ybr, ybs, ybt, ybu, ybv, ares, tup, ybw, ybx, yby, argsE, dval, aop, ev, evs, evo, evp, fillL, addrOf, intOf?, ybz, yca, ycb, ycc, ycd, yce, ycf, zah, zag, reduceIte, Nat.reduceEqDiff, ycg, ych, yci, ycj, yck, ycl, ycm, ycn, yco, ycp, ycq, ycr, zap, zao, reduceCtorEq, zbb, zbc, zba, zaz, Nat.reduceAdd, Nat.reduceMul, zaq, zar, eqPtr, zae, zaf, zab, zaa, zac, zad, hload, hstore, zal, zam, Nat.reduceAdd, Nat.reduceLeDiff, zbb, zas, zat, one, zau, zaw, zav, splice, zaj, zak, zab, zaa, ycs, yct, ycu, ycv, ycw, ycx, ycy, ycz, zan, zai, zax, zay, and_self, true_and, and_true, lenV, yda, Nat.le_refl, if_true, ydq, ydr, yds, ne_eq, not_true_eq_false, not_false_eq_true, ← decide_not, Decidable.not_not, ydt, ydu, ydz, ydv, ydw, List.drop_zero, eq_self, Bool.false_eq_true, List.getElem?_toArray, yea, yeb, List.nil_append, List.cons_append, Bool.false_and, Int.reduceEq, Int.reduceLT, Int.reduceLE, Int.reduceNe, zbc, zbb, yec, yed, yee, yef, ydx, ydy, g0, g1, g3, g4, Int.toNat_natCast, q1, q2, q3, tk6, ls6, sz6, c1']
        exact ⟨k, by omega, i + 1, by omega, rfl, f1⟩
      · rw [show shr3 x = false by simp [shr3, c1]] at hcn
        simp only [Bool.false_eq_true, if_false, zba] at hcn
        have c1' := eq_false c1
        simp only [↓yaa, ↓yab, ↓yac, ↓yad, ↓yae, ↓yaf, ↓yag, ↓yah, ↓yai, ↓ydb, ↓ydc, ↓ydd, ↓yde, ↓ydf, ↓ydg, ↓yao, ↓yap, ↓ydh, ↓ydi, ↓ydj, ↓ydk, ↓ydl, ↓ydm, ↓ydn, ↓ydo, ↓ydp, ↓yax, yay, yaz, yba, ybb, ybc, ybd, ybe, ybf, ybg, ybh, ybi, ybj, ybk, ybl, ybm, ybn, ybo, ybp, ybq, ybr, ybs, ybt, ybu, ybv, ares, tup, ybw, ybx, yby, argsE, dval, aop, ev, evs, evo, evp, fillL, addrOf, intOf?, ybz, yca, ycb, ycc, ycd, yce, ycf, zah, zag, reduceIte, Nat.reduceEqDiff, ycg, ych, yci, ycj, yck, ycl, ycm, ycn, yco, ycp, ycq, ycr, zap, zao, reduceCtorEq, zbb, zbc, zba, zaz, Nat.reduceAdd, Nat.reduceMul, zaq, zar, eqPtr, zae, zaf, zab, zaa, zac, zad, hload, hstore, zal, zam, Nat.reduceAdd, Nat.reduceLeDiff, zbb, zas, zat, one, zau, zaw, zav, splice, zaj, zak, zab, zaa, ycs, yct, ycu, ycv, ycw, ycx, ycy, ycz, zan, zai, zax, zay, and_self, true_and, and_true, lenV, yda, Nat.le_refl, if_true, ydq, ydr, yds, ne_eq, not_true_eq_false, not_false_eq_true, ← decide_not, Decidable.not_not, ydt, ydu, ydz, ydv, ydw, List.drop_zero, eq_self, Bool.false_eq_true, List.getElem?_toArray, yea, yeb, List.nil_append, List.cons_append, Bool.false_and, Int.reduceEq, Int.reduceLT, Int.reduceLE, Int.reduceNe, zbc, zbb, yec, yed, yee, yef, ydx, ydy, g0, g1, g3, Int.toNat_natCast, q1, q2, q3, tk6, ls6, sz6, c1']
        exact ⟨k, by omega, i + 1, by omega, by rw [hcn], f1⟩

theorem f156 {H : Heap} {t : Tb} {a : Option Addr} {z q : Nat} {key : Int} (h : TI H a z t.cs) (hok : t.Ok) (hg : hget H q = some (⟨true, [.int .i64 t.node, .int .i64 t.len, .slice a t.cs.length z]⟩ : Blk)) {K : Value → Heap → Prop} (hk : ∀ H' (n : Nat) (f : Bool), Frm [] H H' → (f = true ↔ ∃ x ∈ t.cs, hit3 key x) → (f = true → n = t.bef key) → n ≤ 512 → K (.tuple #[.int .i64 (n : Int), .bool f]) H') :
    Op1 (AC tbl 156 [.int .i64 key, .pointer (some ⟨q, 0, none⟩)] H) K := by
  apply AC_wp (F := F156) rfl (by simp [F156]) (.inl rfl)
  have hl := hok.few
  simp only [F156, ↓yaa, ↓yab, ↓yac, ↓yad, ↓yae, ↓yaf, ↓yag, ↓yah, ↓yai, ↓ydb, ↓ydc, ↓ydd, ↓yde, ↓ydf, ↓ydg, ↓yao, ↓yap, ↓ydh, ↓ydi, ↓ydj, ↓ydk, ↓ydl, ↓ydm, ↓ydn, ↓ydo, ↓ydp, ↓yax, yay, yaz, yba, ybb, ybc, ybd, ybe, ybf, ybg, ybh, ybi, ybj, ybk, ybl, ybm, ybn, ybo, ybp, ybq, ybr, ybs, ybt, ybu, ybv, ares, tup, ybw, ybx, yby, argsE, dval, aop, ev, evs, evo, evp, fillL, addrOf, intOf?, ybz, yca, ycb, ycc, ycd, yce, ycf, zah, zag, reduceIte, Nat.reduceEqDiff, ycg, ych, yci, ycj, yck, ycl, ycm, ycn, yco, ycp, ycq, ycr, zap, zao, reduceCtorEq, zbb, zbc, zba, zaz, Nat.reduceAdd, Nat.reduceMul, zaq, zar, eqPtr, zae, zaf, zab, zaa, zac, zad, hload, hstore, zal, zam, Nat.reduceAdd, Nat.reduceLeDiff, zbb, zas, zat, one, zau, zaw, zav, splice, zaj, zak, zab, zaa, ycs, yct, ycu, ycv, ycw, ycx, ycy, ycz, zan, zai, zax, zay, and_self, true_and, and_true, lenV, yda, Nat.le_refl, if_true, ydq, ydr, yds, ne_eq, not_true_eq_false, not_false_eq_true, ← decide_not, Decidable.not_not, ydt, ydu, ydz, ydv, ydw, List.drop_zero, eq_self, Bool.false_eq_true, List.getElem?_toArray, yea, yeb, List.nil_append, List.cons_append, Bool.false_and, Int.reduceEq, Int.reduceLT, Int.reduceLE, Int.reduceNe, zbc, zbb, yec, yed, yee, yef, ydx, ydy, hg]
  apply AW_loop_inv (fun k e H1 => ∃ i : Nat, i + k = t.cs.length ∧ e = [(0, .int .i64 key), (5, .int .i64 (((t.cs.take i).countP (bef3 key) : Nat) : Int)), (9, .slice a t.cs.length z), (10, .int .i64 (t.cs.length : Int)), (11, .int .i64 (i : Int))] ∧ Frm [] H H1 ∧ (∀ (m : Nat) (x : TC), m < i → t.cs[m]? = some x → ¬ hit3 key x)) _ t.cs.length
  · exact ⟨0, by omega, rfl, Frm.refl _ _, fun m x hm => by omega⟩
  · rintro k e H1 ⟨i, hik, rfl, hf, hx⟩
    have hle := @count_le t.cs i (bef3 key)
    cases k with
    | zero =>
      have g0 : ¬ (i : Int) < (t.cs.length : Int) := by omega
      simp only [↓yaa, ↓yab, ↓yac, ↓yad, ↓yae, ↓yaf, ↓yag, ↓yah, ↓yai, ↓ydb, ↓ydc, ↓ydd, ↓yde, ↓ydf, ↓ydg, ↓yao, ↓yap, ↓ydh, ↓ydi, ↓ydj, ↓ydk, ↓ydl, ↓ydm, ↓ydn, ↓ydo, ↓ydp, ↓yax, yay, yaz, yba, ybb, ybc, ybd, ybe, ybf, ybg, ybh, ybi, ybj, ybk, ybl, ybm, ybn, ybo, ybp, ybq, ybr, ybs, ybt, ybu, ybv, ares, tup, ybw, ybx, yby, argsE, dval, aop, ev, evs, evo, evp, fillL, addrOf, intOf?, ybz, yca, ycb, ycc, ycd, yce, ycf, zah, zag, reduceIte, Nat.reduceEqDiff, ycg, ych, yci, ycj, yck, ycl, ycm, ycn, yco, ycp, ycq, ycr, zap, zao, reduceCtorEq, zbb, zbc, zba, zaz, Nat.reduceAdd, Nat.reduceMul, zaq, zar, eqPtr, zae, zaf, zab, zaa, zac, zad, hload, hstore, zal, zam, Nat.reduceAdd, Nat.reduceLeDiff, zbb, zas, zat, one, zau, zaw, zav, splice, zaj, zak, zab, zaa, ycs, yct, ycu, ycv, ycw, ycx, ycy, ycz, zan, zai, zax, zay, and_self, true_and, and_true, lenV, yda, Nat.le_refl, if_true, ydq, ydr, yds, ne_eq, not_true_eq_false, not_false_eq_true, ← decide_not, Decidable.not_not, ydt, ydu, ydz, ydv, ydw, List.drop_zero, eq_self, Bool.false_eq_true, List.getElem?_toArray, yea, yeb, List.nil_append, List.cons_append, Bool.false_and, Int.reduceEq, Int.reduceLT, Int.reduceLE, Int.reduceNe, zbc, zbb, yec, yed, yee, yef, ydx, ydy, g0]
      refine hk _ _ _ hf ⟨fun q => by simp at q, ?_⟩ (fun q => by simp at q) (by omega)
      rintro ⟨x, hm, hh⟩
      obtain ⟨m, hm2, rfl⟩ := List.getElem_of_mem hm
      exact absurd hh (hx m _ (by omega) (List.getElem?_eq_getElem hm2))
    | succ k =>
      obtain ⟨x, hix⟩ : ∃ x, t.cs[i]? = some x := ⟨_, List.getElem?_eq_getElem (by omega)⟩
      obtain ⟨b, o, w, cs, rfl, rfl, q1, q2, q3, q4⟩ := (h.frame0 hf) i x hix
      have g0 : (i : Int) < (t.cs.length : Int) := by omega
      have g1 : (0 : Int) ≤ (i : Int) := by omega
      have g3 : IntKind.i64.wrap ((i : Int) + 1) = ((i + 1 : Nat) : Int) := by rw [wrap_i64 (by omega) (by omega)]; omega
      have hcn := count_next (bef3 key) hix
      have f1 := hf.push (some (⟨true, [.int .i64 x.s, .int .i64 x.c, .int .i64 x.w, .bool x.b, .int .i64 x.p, .int .i64 x.n]⟩ : Blk))
      have nx : ¬ hit3 key x → ∀ (m : Nat) (y : TC), m < i + 1 → t.cs[m]? = some y → ¬ hit3 key y := fun hn m y hm hy => by
        by_cases e : m = i
        · subst e; rw [hix] at hy; injection hy with hy; subst hy; exact hn
        · exact hx m y (by omega) hy
      by_cases c1 : x.w = 3
      · have c1' := eq_true c1
        by_cases c2 : key < x.s
        · rw [show bef3 key x = false by simp [bef3]; omega] at hcn
          simp only [Bool.false_eq_true, if_false, zba] at hcn
          simp only [↓yaa, ↓yab, ↓yac, ↓yad, ↓yae, ↓yaf, ↓yag, ↓yah, ↓yai, ↓ydb, ↓ydc, ↓ydd, ↓yde, ↓ydf, ↓ydg, ↓yao, ↓yap, ↓ydh, ↓ydi, ↓ydj, ↓ydk, ↓ydl, ↓ydm, ↓ydn, ↓ydo, ↓ydp, ↓yax, yay, yaz, yba, ybb, ybc, ybd, ybe, ybf, ybg, ybh, ybi, ybj, ybk, ybl, ybm, ybn, ybo, ybp, ybq, ybr, ybs, ybt, ybu, ybv, ares, tup, ybw, ybx, yby, argsE, dval, aop, ev, evs, evo, evp, fillL, addrOf, intOf?, ybz, yca, ycb, ycc, ycd, yce, ycf, zah, zag, reduceIte, Nat.reduceEqDiff, ycg, ych, yci, ycj, yck, ycl, ycm, ycn, yco, ycp, ycq, ycr, zap, zao, reduceCtorEq, zbb, zbc, zba, zaz, Nat.reduceAdd, Nat.reduceMul, zaq, zar, eqPtr, zae, zaf, zab, zaa, zac, zad, hload, hstore, zal, zam, Nat.reduceAdd, Nat.reduceLeDiff, zbb, zas, zat, one, zau, zaw, zav, splice, zaj, zak, zab, zaa, ycs, yct, ycu, ycv, ycw, ycx, ycy, ycz, zan, zai, zax, zay, and_self, true_and, and_true, lenV, yda, Nat.le_refl, if_true, ydq, ydr, yds, ne_eq, not_true_eq_false, not_false_eq_true, ← decide_not, Decidable.not_not, ydt, ydu, ydz, ydv, ydw, List.drop_zero, eq_self, Bool.false_eq_true, List.getElem?_toArray, yea, yeb, List.nil_append, List.cons_append, Bool.false_and, Int.reduceEq, Int.reduceLT, Int.reduceLE, Int.reduceNe, zbc, zbb, yec, yed, yee, yef, ydx, ydy, g0, g1, g3, Int.toNat_natCast, q1, q2, q3, tk6, ls6, sz6, c1', c2]
          exact ⟨k, by omega, i + 1, by omega, by rw [hcn], f1, nx (fun hh => by have := hh.2; omega)⟩
        · by_cases c3 : x.s = key
          · have c3' := eq_true c3
            simp only [↓yaa, ↓yab, ↓yac, ↓yad, ↓yae, ↓yaf, ↓yag, ↓yah, ↓yai, ↓ydb, ↓ydc, ↓ydd, ↓yde, ↓ydf, ↓ydg, ↓yao, ↓yap, ↓ydh, ↓ydi, ↓ydj, ↓ydk, ↓ydl, ↓ydm, ↓ydn, ↓ydo, ↓ydp, ↓yax, yay, yaz, yba, ybb, ybc, ybd, ybe, ybf, ybg, ybh, ybi, ybj, ybk, ybl, ybm, ybn, ybo, ybp, ybq, ybr, ybs, ybt, ybu, ybv, ares, tup, ybw, ybx, yby, argsE, dval, aop, ev, evs, evo, evp, fillL, addrOf, intOf?, ybz, yca, ycb, ycc, ycd, yce, ycf, zah, zag, reduceIte, Nat.reduceEqDiff, ycg, ych, yci, ycj, yck, ycl, ycm, ycn, yco, ycp, ycq, ycr, zap, zao, reduceCtorEq, zbb, zbc, zba, zaz, Nat.reduceAdd, Nat.reduceMul, zaq, zar, eqPtr, zae, zaf, zab, zaa, zac, zad, hload, hstore, zal, zam, Nat.reduceAdd, Nat.reduceLeDiff, zbb, zas, zat, one, zau, zaw, zav, splice, zaj, zak, zab, zaa, ycs, yct, ycu, ycv, ycw, ycx, ycy, ycz, zan, zai, zax, zay, and_self, true_and, and_true, lenV, yda, Nat.le_refl, if_true, ydq, ydr, yds, ne_eq, not_true_eq_false, not_false_eq_true, ← decide_not, Decidable.not_not, ydt, ydu, ydz, ydv, ydw, List.drop_zero, eq_self, Bool.false_eq_true, List.getElem?_toArray, yea, yeb, List.nil_append, List.cons_append, Bool.false_and, Int.reduceEq, Int.reduceLT, Int.reduceLE, Int.reduceNe, zbc, zbb, yec, yed, yee, yef, ydx, ydy, g0, g1, g3, Int.toNat_natCast, q1, q2, q3, tk6, ls6, sz6, c1', c2, c3']
            refine hk _ _ _ f1 ⟨fun _ => ⟨x, List.mem_of_getElem? hix, c1, c3⟩, fun _ => rfl⟩ (fun _ => ?_) (by omega)
            refine (count_rest (bef3 key) fun m y hm hy => ?_).symm
            have := hok.le m i x y hm hix hy
            simp [bef3]; omega
          · have c3' := eq_false c3
            rw [show bef3 key x = true by simp [bef3, c1]; omega] at hcn
            simp only [if_true] at hcn
            have g4 : IntKind.i64.wrap ((((t.cs.take i).countP (bef3 key) : Nat) : Int) + 1) = (((t.cs.take (i + 1)).countP (bef3 key) : Nat) : Int) := by rw [wrap_i64 (by omega) (by omega), hcn]; omega
            simp only [↓yaa, ↓yab, ↓yac, ↓yad, ↓yae, ↓yaf, ↓yag, ↓yah, ↓yai, ↓ydb, ↓ydc, ↓ydd, ↓yde, ↓ydf, ↓ydg, ↓yao, ↓yap, ↓ydh, ↓ydi, ↓ydj, ↓ydk, ↓ydl, ↓ydm, ↓ydn, ↓ydo, ↓ydp, ↓yax, yay, yaz, yba, ybb, ybc, ybd, ybe, ybf, ybg, ybh, ybi, ybj, ybk, ybl, ybm, ybn, ybo, ybp, ybq, ybr, ybs, ybt, ybu, ybv, ares, tup, ybw, ybx, yby, argsE, dval, aop, ev, evs, evo, evp, fillL, addrOf, intOf?, ybz, yca, ycb, ycc, ycd, yce, ycf, zah, zag, reduceIte, Nat.reduceEqDiff, ycg, ych, yci, ycj, yck, ycl, ycm, ycn, yco, ycp, ycq, ycr, zap, zao, reduceCtorEq, zbb, zbc, zba, zaz, Nat.reduceAdd, Nat.reduceMul, zaq, zar, eqPtr, zae, zaf, zab, zaa, zac, zad, hload, hstore, zal, zam, Nat.reduceAdd, Nat.reduceLeDiff, zbb, zas, zat, one, zau, zaw, zav, splice, zaj, zak, zab, zaa, ycs, yct, ycu, ycv, ycw, ycx, ycy, ycz, zan, zai, zax, zay, and_self, true_and, and_true, lenV, yda, Nat.le_refl, if_true, ydq, ydr, yds, ne_eq, not_true_eq_false, not_false_eq_true, ← decide_not, Decidable.not_not, ydt, ydu, ydz, ydv, ydw, List.drop_zero, eq_self, Bool.false_eq_true, List.getElem?_toArray, yea, yeb, List.nil_append, List.cons_append, Bool.false_and, Int.reduceEq, Int.reduceLT, Int.reduceLE, Int.reduceNe, zbc, zbb, yec, yed, yee, yef, ydx, ydy, g0, g1, g3, g4, Int.toNat_natCast, q1, q2, q3, tk6, ls6, sz6, c1', c2, c3']
            exact ⟨k, by omega, i + 1, by omega, rfl, f1, nx (fun hh => c3 hh.2)⟩
      · have c1' := eq_false c1
        rw [show bef3 key x = false by simp [bef3, c1]] at hcn
        simp only [Bool.false_eq_true, if_false, zba] at hcn
        simp only [↓yaa, ↓yab, ↓yac, ↓yad, ↓yae, ↓yaf, ↓yag, ↓yah, ↓yai, ↓ydb, ↓ydc, ↓ydd, ↓yde, ↓ydf, ↓ydg, ↓yao, ↓yap, ↓ydh, ↓ydi, ↓ydj, ↓ydk, ↓ydl, ↓ydm, ↓ydn, ↓ydo, ↓ydp, ↓yax, yay, yaz, yba, ybb, ybc, ybd, ybe, ybf, ybg, ybh, ybi, ybj, ybk, ybl, ybm, ybn, ybo, ybp, ybq, ybr, ybs, ybt, ybu, ybv, ares, tup, ybw, ybx, yby, argsE, dval, aop, ev, evs, evo, evp, fillL, addrOf, intOf?, ybz, yca, ycb, ycc, ycd, yce, ycf, zah, zag, reduceIte, Nat.reduceEqDiff, ycg, ych, yci, ycj, yck, ycl, ycm, ycn, yco, ycp, ycq, ycr, zap, zao, reduceCtorEq, zbb, zbc, zba, zaz, Nat.reduceAdd, Nat.reduceMul, zaq, zar, eqPtr, zae, zaf, zab, zaa, zac, zad, hload, hstore, zal, zam, Nat.reduceAdd, Nat.reduceLeDiff, zbb, zas, zat, one, zau, zaw, zav, splice, zaj, zak, zab, zaa, ycs, yct, ycu, ycv, ycw, ycx, ycy, ycz, zan, zai, zax, zay, and_self, true_and, and_true, lenV, yda, Nat.le_refl, if_true, ydq, ydr, yds, ne_eq, not_true_eq_false, not_false_eq_true, ← decide_not, Decidable.not_not, ydt, ydu, ydz, ydv, ydw, List.drop_zero, eq_self, Bool.false_eq_true, List.getElem?_toArray, yea, yeb, List.nil_append, List.cons_append, Bool.false_and, Int.reduceEq, Int.reduceLT, Int.reduceLE, Int.reduceNe, zbc, zbb, yec, yed, yee, yef, ydx, ydy, g0, g1, g3, Int.toNat_natCast, q1, q2, q3, tk6, ls6, sz6, c1']
        exact ⟨k, by omega, i + 1, by omega, by rw [hcn], f1, nx (fun hh => c1 hh.1)⟩

open Classical in
theorem f116 {H : Heap} {t : Tb} {a : Option Addr} {z : Nat} {k n : Int} (h : TI H a z t.cs) (hk64 : Is64 k) {K : Value → Heap → Prop} (hk : ∀ H', Frm [] H H' → K (.tuple #[.int .i64 (t.turn k n).1, .bool (t.turn k n).2]) H') : Op1 (AC tbl 116 [t.v a z, .int .i64 k, .int .i64 n] H) K := by
  apply AC_wp (F := F116) rfl (by simp [F116]) (.inl rfl)
  have hg : hget (H ++ [some (⟨true, [.int .i64 t.node, .int .i64 t.len, .slice a t.cs.length z]⟩ : Blk)]) H.length = some (⟨true, [.int .i64 t.node, .int .i64 t.len, .slice a t.cs.length z]⟩ : Blk) := ydu
  have hG := h.push (some (⟨true, [.int .i64 t.node, .int .i64 t.len, .slice a t.cs.length z]⟩ : Blk))
  have f0 : Frm [] H (H ++ [some (⟨true, [.int .i64 t.node, .int .i64 t.len, .slice a t.cs.length z]⟩ : Blk)]) := (Frm.refl _ _).push _
  have htv : t.v a z = .agg #[.int .i64 t.node, .int .i64 t.len, .slice a t.cs.length z] := rfl
  rw [htv]
  simp only [F116, ↓yaa, ↓yab, ↓yac, ↓yad, ↓yae, ↓yaf, ↓yag, ↓yah, ↓yai, ↓ydb, ↓ydc, ↓ydd, ↓yde, ↓ydf, ↓ydg, ↓yao, ↓yap, ↓ydh, ↓ydi, ↓ydj, ↓ydk, ↓ydl, ↓ydm, ↓ydn, ↓ydo, ↓ydp, ↓yax, yay, yaz, yba, ybb, ybc, ybd, ybe, ybf, ybg, ybh, ybi, ybj, ybk, ybl, ybm, ybn, ybo, ybp, ybq, ybr, ybs, ybt, ybu, ybv, ares, tup, ybw, ybx, yby, argsE, dval, aop, ev, evs, evo, evp, fillL, addrOf, intOf?, ybz, yca, ycb, ycc, ycd, yce, ycf, zah, zag, reduceIte, Nat.reduceEqDiff, ycg, ych, yci, ycj, yck, ycl, ycm, ycn, yco, ycp, ycq, ycr, zap, zao, reduceCtorEq, zbb, zbc, zba, zaz, Nat.reduceAdd, Nat.reduceMul, zaq, zar, eqPtr, zae, zaf, zab, zaa, zac, zad, hload, hstore, zal, zam, Nat.reduceAdd, Nat.reduceLeDiff, zbb, zas, zat, one, zau, zaw, zav, splice, zaj, zak, zab, zaa, ycs, yct, ycu, ycv, ycw, ycx, ycy, ycz, zan, zai, zax, zay, and_self, true_and, and_true, lenV, yda, Nat.le_refl, if_true, ydq, ydr, yds, ne_eq, not_true_eq_false, not_false_eq_true, ← decide_not, Decidable.not_not, ydt, ydu, ydz, ydv, ydw, List.drop_zero, eq_self, Bool.false_eq_true, List.getElem?_toArray, yea, yeb, List.nil_append, List.cons_append, Bool.false_and, Int.reduceEq, Int.reduceLT, Int.reduceLE, Int.reduceNe, zbc, zbb, yec, yed, yee, yef, ydx, ydy, tk3, ls3]
  generalize H ++ [some (⟨true, [.int .i64 t.node, .int .i64 t.len, .slice a t.cs.length z]⟩ : Blk)] = G at *
  rw [← htv]
  have no : ¬ ((t.Ok ∧ 0 ≤ k ∧ 1 ≤ n ∧ n ≤ 32) ∧ ∃ x ∈ t.cs, hit3 (k.tmod t.len) x) → t.turn k n = (0, false) := fun q => by unfold Tb.turn; rw [if_neg q]
  refine f139 hG fun H1 b f1 hb => ?_
  have ff := f0.then f1
  cases b with
  | false =>
    have hno := no (fun q => by have := hb.2 ⟨q.1.1, q.1.2.2⟩; simp at this)
    rw [hno] at hk
    simp only [↓yaa, ↓yab, ↓yac, ↓yad, ↓yae, ↓yaf, ↓yag, ↓yah, ↓yai, ↓ydb, ↓ydc, ↓ydd, ↓yde, ↓ydf, ↓ydg, ↓yao, ↓yap, ↓ydh, ↓ydi, ↓ydj, ↓ydk, ↓ydl, ↓ydm, ↓ydn, ↓ydo, ↓ydp, ↓yax, yay, yaz, yba, ybb, ybc, ybd, ybe, ybf, ybg, ybh, ybi, ybj, ybk, ybl, ybm, ybn, ybo, ybp, ybq, ybr, ybs, ybt, ybu, ybv, ares, tup, ybw, ybx, yby, argsE, dval, aop, ev, evs, evo, evp, fillL, addrOf, intOf?, ybz, yca, ycb, ycc, ycd, yce, ycf, zah, zag, reduceIte, Nat.reduceEqDiff, ycg, ych, yci, ycj, yck, ycl, ycm, ycn, yco, ycp, ycq, ycr, zap, zao, reduceCtorEq, zbb, zbc, zba, zaz, Nat.reduceAdd, Nat.reduceMul, zaq, zar, eqPtr, zae, zaf, zab, zaa, zac, zad, hload, hstore, zal, zam, Nat.reduceAdd, Nat.reduceLeDiff, zbb, zas, zat, one, zau, zaw, zav, splice, zaj, zak, zab, zaa, ycs, yct, ycu, ycv, ycw, ycx, ycy, ycz, zan, zai, zax, zay, and_self, true_and, and_true, lenV, yda, Nat.le_refl, if_true, ydq, ydr, yds, ne_eq, not_true_eq_false, not_false_eq_true, ← decide_not, Decidable.not_not, ydt, ydu, ydz, ydv, ydw, List.drop_zero, eq_self, Bool.false_eq_true, List.getElem?_toArray, yea, yeb, List.nil_append, List.cons_append, Bool.false_and, Int.reduceEq, Int.reduceLT, Int.reduceLE, Int.reduceNe, zbc, zbb, yec, yed, yee, yef, ydx, ydy]
    exact hk _ ff
  | true =>
    obtain ⟨hok, hn⟩ := hb.1 rfl
    by_cases c1 : k < 0
    · have hno := no (fun q => by have := q.1.2.1; omega)
      rw [hno] at hk
      simp only [↓yaa, ↓yab, ↓yac, ↓yad, ↓yae, ↓yaf, ↓yag, ↓yah, ↓yai, ↓ydb, ↓ydc, ↓ydd, ↓yde, ↓ydf, ↓ydg, ↓yao, ↓yap, ↓ydh, ↓ydi, ↓ydj, ↓ydk, ↓ydl, ↓ydm, ↓ydn, ↓ydo, ↓ydp, ↓yax, yay, yaz, yba, ybb, ybc, ybd, ybe, ybf, ybg, ybh, ybi, ybj, ybk, ybl, ybm, ybn, ybo, ybp, ybq, ybr, ybs, ybt, ybu, ybv, ares, tup, ybw, ybx, yby, argsE, dval, aop, ev, evs, evo, evp, fillL, addrOf, intOf?, ybz, yca, ycb, ycc, ycd, yce, ycf, zah, zag, reduceIte, Nat.reduceEqDiff, ycg, ych, yci, ycj, yck, ycl, ycm, ycn, yco, ycp, ycq, ycr, zap, zao, reduceCtorEq, zbb, zbc, zba, zaz, Nat.reduceAdd, Nat.reduceMul, zaq, zar, eqPtr, zae, zaf, zab, zaa, zac, zad, hload, hstore, zal, zam, Nat.reduceAdd, Nat.reduceLeDiff, zbb, zas, zat, one, zau, zaw, zav, splice, zaj, zak, zab, zaa, ycs, yct, ycu, ycv, ycw, ycx, ycy, ycz, zan, zai, zax, zay, and_self, true_and, and_true, lenV, yda, Nat.le_refl, if_true, ydq, ydr, yds, ne_eq, not_true_eq_false, not_false_eq_true, ← decide_not, Decidable.not_not, ydt, ydu, ydz, ydv, ydw, List.drop_zero, eq_self, Bool.false_eq_true, List.getElem?_toArray, yea, yeb, List.nil_append, List.cons_append, Bool.false_and, Int.reduceEq, Int.reduceLT, Int.reduceLE, Int.reduceNe, zbc, zbb, yec, yed, yee, yef, ydx, ydy, c1]
      exact hk _ ff
    · have g1 := f1.gets hg
      simp only [↓yaa, ↓yab, ↓yac, ↓yad, ↓yae, ↓yaf, ↓yag, ↓yah, ↓yai, ↓ydb, ↓ydc, ↓ydd, ↓yde, ↓ydf, ↓ydg, ↓yao, ↓yap, ↓ydh, ↓ydi, ↓ydj, ↓ydk, ↓ydl, ↓ydm, ↓ydn, ↓ydo, ↓ydp, ↓yax, yay, yaz, yba, ybb, ybc, ybd, ybe, ybf, ybg, ybh, ybi, ybj, ybk, ybl, ybm, ybn, ybo, ybp, ybq, ybr, ybs, ybt, ybu, ybv, ares, tup, ybw, ybx, yby, argsE, dval, aop, ev, evs, evo, evp, fillL, addrOf, intOf?, ybz, yca, ycb, ycc, ycd, yce, ycf, zah, zag, reduceIte, Nat.reduceEqDiff, ycg, ych, yci, ycj, yck, ycl, ycm, ycn, yco, ycp, ycq, ycr, zap, zao, reduceCtorEq, zbb, zbc, zba, zaz, Nat.reduceAdd, Nat.reduceMul, zaq, zar, eqPtr, zae, zaf, zab, zaa, zac, zad, hload, hstore, zal, zam, Nat.reduceAdd, Nat.reduceLeDiff, zbb, zas, zat, one, zau, zaw, zav, splice, zaj, zak, zab, zaa, ycs, yct, ycu, ycv, ycw, ycx, ycy, ycz, zan, zai, zax, zay, and_self, true_and, and_true, lenV, yda, Nat.le_refl, if_true, ydq, ydr, yds, ne_eq, not_true_eq_false, not_false_eq_true, ← decide_not, Decidable.not_not, ydt, ydu, ydz, ydv, ydw, List.drop_zero, eq_self, Bool.false_eq_true, List.getElem?_toArray, yea, yeb, List.nil_append, List.cons_append, Bool.false_and, Int.reduceEq, Int.reduceLT, Int.reduceLE, Int.reduceNe, zbc, zbb, yec, yed, yee, yef, ydx, ydy, c1, g1, tk3, ls3]
      rw [← htv]
      refine f140 (hG.frame0 f1) hok.few fun H2 f2 hq => ?_
      have g2 := f2.gets g1
      have hne : ¬ t.len = 0 := by have := hok.len; omega
      have hrem : binV .rem (.int .i64 k) (.int .i64 t.len) = some (.int .i64 (k.tmod t.len)) := binV_rem _ _ _ hne
      have happ : ∀ v w : Value, (#[] : Array Value).toList ++ [v] ++ (#[w] : Array Value).toList = [v, w] := fun _ _ => rfl
      simp only [↓yaa, ↓yab, ↓yac, ↓yad, ↓yae, ↓yaf, ↓yag, ↓yah, ↓yai, ↓ydb, ↓ydc, ↓ydd, ↓yde, ↓ydf, ↓ydg, ↓yao, ↓yap, ↓ydh, ↓ydi, ↓ydj, ↓ydk, ↓ydl, ↓ydm, ↓ydn, ↓ydo, ↓ydp, ↓yax, yay, yaz, yba, ybb, ybc, ybd, ybe, ybf, ybg, ybh, ybi, ybj, ybk, ybl, ybm, ybn, ybo, ybp, ybq, ybr, ybs, ybt, ybu, ybv, ares, tup, ybw, ybx, yby, argsE, dval, aop, ev, evs, evo, evp, fillL, addrOf, intOf?, ybz, yca, ycb, ycc, ycd, yce, ycf, zah, zag, reduceIte, Nat.reduceEqDiff, ycg, ych, yci, ycj, yck, ycl, ycm, ycn, yco, ycp, ycq, ycr, zap, zao, reduceCtorEq, zbb, zbc, zba, zaz, Nat.reduceAdd, Nat.reduceMul, zaq, zar, eqPtr, zae, zaf, zab, zaa, zac, zad, hload, hstore, zal, zam, Nat.reduceAdd, Nat.reduceLeDiff, zbb, zas, zat, one, zau, zaw, zav, splice, zaj, zak, zab, zaa, ycs, yct, ycu, ycv, ycw, ycx, ycy, ycz, zan, zai, zax, zay, and_self, true_and, and_true, lenV, yda, Nat.le_refl, if_true, ydq, ydr, yds, ne_eq, not_true_eq_false, not_false_eq_true, ← decide_not, Decidable.not_not, ydt, ydu, ydz, ydv, ydw, List.drop_zero, eq_self, Bool.false_eq_true, List.getElem?_toArray, yea, yeb, List.nil_append, List.cons_append, Bool.false_and, Int.reduceEq, Int.reduceLT, Int.reduceLE, Int.reduceNe, zbc, zbb, yec, yed, yee, yef, ydx, ydy, g2, hrem, happ]
      refine f156 ((hG.frame0 f1).frame0 f2) hok hq fun H3 m f f3 hf hm hle => ?_
      have g3 := f3.gets g2
      have ff := (ff.then f2).then f3
      cases f with
      | false =>
        have hno := no (fun q => by have := hf.2 q.2; simp at this)
        rw [hno] at hk
        simp only [↓yaa, ↓yab, ↓yac, ↓yad, ↓yae, ↓yaf, ↓yag, ↓yah, ↓yai, ↓ydb, ↓ydc, ↓ydd, ↓yde, ↓ydf, ↓ydg, ↓yao, ↓yap, ↓ydh, ↓ydi, ↓ydj, ↓ydk, ↓ydl, ↓ydm, ↓ydn, ↓ydo, ↓ydp, ↓yax, yay, yaz, yba, ybb, ybc, ybd, ybe, ybf, ybg, ybh, ybi, ybj, ybk, ybl, ybm, ybn, ybo, ybp, ybq, ybr, ybs, ybt, ybu, ybv, ares, tup, ybw, ybx, yby, argsE, dval, aop, ev, evs, evo, evp, fillL, addrOf, intOf?, ybz, yca, ycb, ycc, ycd, yce, ycf, zah, zag, reduceIte, Nat.reduceEqDiff, ycg, ych, yci, ycj, yck, ycl, ycm, ycn, yco, ycp, ycq, ycr, zap, zao, reduceCtorEq, zbb, zbc, zba, zaz, Nat.reduceAdd, Nat.reduceMul, zaq, zar, eqPtr, zae, zaf, zab, zaa, zac, zad, hload, hstore, zal, zam, Nat.reduceAdd, Nat.reduceLeDiff, zbb, zas, zat, one, zau, zaw, zav, splice, zaj, zak, zab, zaa, ycs, yct, ycu, ycv, ycw, ycx, ycy, ycz, zan, zai, zax, zay, and_self, true_and, and_true, lenV, yda, Nat.le_refl, if_true, ydq, ydr, yds, ne_eq, not_true_eq_false, not_false_eq_true, ← decide_not, Decidable.not_not, ydt, ydu, ydz, ydv, ydw, List.drop_zero, eq_self, Bool.false_eq_true, List.getElem?_toArray, yea, yeb, List.nil_append, List.cons_append, Bool.false_and, Int.reduceEq, Int.reduceLT, Int.reduceLE, Int.reduceNe, zbc, zbb, yec, yed, yee, yef, ydx, ydy]
        exact hk _ ff
      | true =>
        have hyes : t.turn k n = (((k.tdiv t.len).tmod n * (t.cnt : Int) + (t.bef (k.tmod t.len) : Int)).tmod n, true) := by
          unfold Tb.turn; rw [if_pos ⟨⟨hok, by omega, hn⟩, hf.1 rfl⟩]
        have hm := hm rfl
        subst hm
        have hcnt : t.cnt ≤ 512 := Nat.le_trans List.countP_le_length hok.few
        obtain ⟨w1, w2, w3⟩ := turn_wrap (by omega) hk64.2 hok.len.1 hn hcnt hle
        have hquo : binV .quo (.int .i64 k) (.int .i64 t.len) = some (.int .i64 (k.tdiv t.len)) := by rw [binV_quo _ _ _ hne, w1]
        have hr : ∀ x, binV .rem (.int .i64 x) (.int .i64 n) = some (.int .i64 (x.tmod n)) := fun x => binV_rem _ _ _ (by omega)
        rw [hyes] at hk
        simp only [↓yaa, ↓yab, ↓yac, ↓yad, ↓yae, ↓yaf, ↓yag, ↓yah, ↓yai, ↓ydb, ↓ydc, ↓ydd, ↓yde, ↓ydf, ↓ydg, ↓yao, ↓yap, ↓ydh, ↓ydi, ↓ydj, ↓ydk, ↓ydl, ↓ydm, ↓ydn, ↓ydo, ↓ydp, ↓yax, yay, yaz, yba, ybb, ybc, ybd, ybe, ybf, ybg, ybh, ybi, ybj, ybk, ybl, ybm, ybn, ybo, ybp, ybq, ybr, ybs, ybt, ybu, ybv, ares, tup, ybw, ybx, yby, argsE, dval, aop, ev, evs, evo, evp, fillL, addrOf, intOf?, ybz, yca, ycb, ycc, ycd, yce, ycf, zah, zag, reduceIte, Nat.reduceEqDiff, ycg, ych, yci, ycj, yck, ycl, ycm, ycn, yco, ycp, ycq, ycr, zap, zao, reduceCtorEq, zbb, zbc, zba, zaz, Nat.reduceAdd, Nat.reduceMul, zaq, zar, eqPtr, zae, zaf, zab, zaa, zac, zad, hload, hstore, zal, zam, Nat.reduceAdd, Nat.reduceLeDiff, zbb, zas, zat, one, zau, zaw, zav, splice, zaj, zak, zab, zaa, ycs, yct, ycu, ycv, ycw, ycx, ycy, ycz, zan, zai, zax, zay, and_self, true_and, and_true, lenV, yda, Nat.le_refl, if_true, ydq, ydr, yds, ne_eq, not_true_eq_false, not_false_eq_true, ← decide_not, Decidable.not_not, ydt, ydu, ydz, ydv, ydw, List.drop_zero, eq_self, Bool.false_eq_true, List.getElem?_toArray, yea, yeb, List.nil_append, List.cons_append, Bool.false_and, Int.reduceEq, Int.reduceLT, Int.reduceLE, Int.reduceNe, zbc, zbb, yec, yed, yee, yef, ydx, ydy, g3, hquo, hr, w2, w3]
        exact hk _ ff

open Classical in
theorem f117 {H : Heap} {t : Tb} {a : Option Addr} {z : Nat} {k n : Int} (h : TI H a z t.cs) (hk64 : Is64 k) {K : Value → Heap → Prop} (hk : ∀ H', Frm [] H H' → K (.tuple #[.int .i64 (t.turn k n).1, .bool (t.turn k n).2]) H') : Op1 (AC tbl 117 [t.v a z, .int .i64 k, .int .i64 n] H) K := by
  apply AC_wp (F := F117) rfl (by simp [F117]) (.inl rfl)
  have hg : hget (H ++ [some (⟨true, [.int .i64 t.node, .int .i64 t.len, .slice a t.cs.length z]⟩ : Blk)]) H.length = some (⟨true, [.int .i64 t.node, .int .i64 t.len, .slice a t.cs.length z]⟩ : Blk) := ydu
  have hG := h.push (some (⟨true, [.int .i64 t.node, .int .i64 t.len, .slice a t.cs.length z]⟩ : Blk))
  have f0 : Frm [] H (H ++ [some (⟨true, [.int .i64 t.node, .int .i64 t.len, .slice a t.cs.length z]⟩ : Blk)]) := (Frm.refl _ _).push _
  have htv : t.v a z = .agg #[.int .i64 t.node, .int .i64 t.len, .slice a t.cs.length z] := rfl
  rw [htv]
  simp only [F117, ↓yaa, ↓yab, ↓yac, ↓yad, ↓yae, ↓yaf, ↓yag, ↓yah, ↓yai, ↓ydb, ↓ydc, ↓ydd, ↓yde, ↓ydf, ↓ydg, ↓yao, ↓yap, ↓ydh, ↓ydi, ↓ydj, ↓ydk, ↓ydl, ↓ydm, ↓ydn, ↓ydo, ↓ydp, ↓yax, yay, yaz, yba, ybb, ybc, ybd, ybe, ybf, ybg, ybh, ybi, ybj, ybk, ybl, ybm, ybn, ybo, ybp, ybq, ybr, ybs, ybt, ybu, ybv, ares, tup, ybw, ybx, yby, argsE, dval, aop, ev, evs, evo, evp, fillL, addrOf, intOf?, ybz, yca, ycb, ycc, ycd, yce, ycf, zah, zag, reduceIte, Nat.reduceEqDiff, ycg, ych, yci, ycj, yck, ycl, ycm, ycn, yco, ycp, ycq, ycr, zap, zao, reduceCtorEq, zbb, zbc, zba, zaz, Nat.reduceAdd, Nat.reduceMul, zaq, zar, eqPtr, zae, zaf, zab, zaa, zac, zad, hload, hstore, zal, zam, Nat.reduceAdd, Nat.reduceLeDiff, zbb, zas, zat, one, zau, zaw, zav, splice, zaj, zak, zab, zaa, ycs, yct, ycu, ycv, ycw, ycx, ycy, ycz, zan, zai, zax, zay, and_self, true_and, and_true, lenV, yda, Nat.le_refl, if_true, ydq, ydr, yds, ne_eq, not_true_eq_false, not_false_eq_true, ← decide_not, Decidable.not_not, ydt, ydu, ydz, ydv, ydw, List.drop_zero, eq_self, Bool.false_eq_true, List.getElem?_toArray, yea, yeb, List.nil_append, List.cons_append, Bool.false_and, Int.reduceEq, Int.reduceLT, Int.reduceLE, Int.reduceNe, zbc, zbb, yec, yed, yee, yef, ydx, ydy, tk3, ls3]
  generalize H ++ [some (⟨true, [.int .i64 t.node, .int .i64 t.len, .slice a t.cs.length z]⟩ : Blk)] = G at *
  rw [← htv]
  have no : ¬ ((t.Ok ∧ 0 ≤ k ∧ 1 ≤ n ∧ n ≤ 32) ∧ ∃ x ∈ t.cs, hit3 (k.tmod t.len) x) → t.turn k n = (0, false) := fun q => by unfold Tb.turn; rw [if_neg q]
  refine f141 hG fun H1 m f1 hm => ?_
  have ff := f0.then f1
  by_cases c0 : m = 0
  · have hok := hm.1 c0
    by_cases c1 : k < 0
    · have hno := no (fun q => by have := q.1.2.1; omega)
      rw [hno] at hk
      simp only [↓yaa, ↓yab, ↓yac, ↓yad, ↓yae, ↓yaf, ↓yag, ↓yah, ↓yai, ↓ydb, ↓ydc, ↓ydd, ↓yde, ↓ydf, ↓ydg, ↓yao, ↓yap, ↓ydh, ↓ydi, ↓ydj, ↓ydk, ↓ydl, ↓ydm, ↓ydn, ↓ydo, ↓ydp, ↓yax, yay, yaz, yba, ybb, ybc, ybd, ybe, ybf, ybg, ybh, ybi, ybj, ybk, ybl, ybm, ybn, ybo, ybp, ybq, ybr, ybs, ybt, ybu, ybv, ares, tup, ybw, ybx, yby, argsE, dval, aop, ev, evs, evo, evp, fillL, addrOf, intOf?, ybz, yca, ycb, ycc, ycd, yce, ycf, zah, zag, reduceIte, Nat.reduceEqDiff, ycg, ych, yci, ycj, yck, ycl, ycm, ycn, yco, ycp, ycq, ycr, zap, zao, reduceCtorEq, zbb, zbc, zba, zaz, Nat.reduceAdd, Nat.reduceMul, zaq, zar, eqPtr, zae, zaf, zab, zaa, zac, zad, hload, hstore, zal, zam, Nat.reduceAdd, Nat.reduceLeDiff, zbb, zas, zat, one, zau, zaw, zav, splice, zaj, zak, zab, zaa, ycs, yct, ycu, ycv, ycw, ycx, ycy, ycz, zan, zai, zax, zay, and_self, true_and, and_true, lenV, yda, Nat.le_refl, if_true, ydq, ydr, yds, ne_eq, not_true_eq_false, not_false_eq_true, ← decide_not, Decidable.not_not, ydt, ydu, ydz, ydv, ydw, List.drop_zero, eq_self, Bool.false_eq_true, List.getElem?_toArray, yea, yeb, List.nil_append, List.cons_append, Bool.false_and, Int.reduceEq, Int.reduceLT, Int.reduceLE, Int.reduceNe, zbc, zbb, yec, yed, yee, yef, ydx, ydy, c0, c1]
      exact hk _ ff
    · by_cases c2 : n < 1
      · have hno := no (fun q => by have := q.1.2.2; omega)
        rw [hno] at hk
        simp only [↓yaa, ↓yab, ↓yac, ↓yad, ↓yae, ↓yaf, ↓yag, ↓yah, ↓yai, ↓ydb, ↓ydc, ↓ydd, ↓yde, ↓ydf, ↓ydg, ↓yao, ↓yap, ↓ydh, ↓ydi, ↓ydj, ↓ydk, ↓ydl, ↓ydm, ↓ydn, ↓ydo, ↓ydp, ↓yax, yay, yaz, yba, ybb, ybc, ybd, ybe, ybf, ybg, ybh, ybi, ybj, ybk, ybl, ybm, ybn, ybo, ybp, ybq, ybr, ybs, ybt, ybu, ybv, ares, tup, ybw, ybx, yby, argsE, dval, aop, ev, evs, evo, evp, fillL, addrOf, intOf?, ybz, yca, ycb, ycc, ycd, yce, ycf, zah, zag, reduceIte, Nat.reduceEqDiff, ycg, ych, yci, ycj, yck, ycl, ycm, ycn, yco, ycp, ycq, ycr, zap, zao, reduceCtorEq, zbb, zbc, zba, zaz, Nat.reduceAdd, Nat.reduceMul, zaq, zar, eqPtr, zae, zaf, zab, zaa, zac, zad, hload, hstore, zal, zam, Nat.reduceAdd, Nat.reduceLeDiff, zbb, zas, zat, one, zau, zaw, zav, splice, zaj, zak, zab, zaa, ycs, yct, ycu, ycv, ycw, ycx, ycy, ycz, zan, zai, zax, zay, and_self, true_and, and_true, lenV, yda, Nat.le_refl, if_true, ydq, ydr, yds, ne_eq, not_true_eq_false, not_false_eq_true, ← decide_not, Decidable.not_not, ydt, ydu, ydz, ydv, ydw, List.drop_zero, eq_self, Bool.false_eq_true, List.getElem?_toArray, yea, yeb, List.nil_append, List.cons_append, Bool.false_and, Int.reduceEq, Int.reduceLT, Int.reduceLE, Int.reduceNe, zbc, zbb, yec, yed, yee, yef, ydx, ydy, c0, c1, c2]
        exact hk _ ff
      · by_cases c3 : 32 < n
        · have hno := no (fun q => by have := q.1.2.2; omega)
          rw [hno] at hk
          simp only [↓yaa, ↓yab, ↓yac, ↓yad, ↓yae, ↓yaf, ↓yag, ↓yah, ↓yai, ↓ydb, ↓ydc, ↓ydd, ↓yde, ↓ydf, ↓ydg, ↓yao, ↓yap, ↓ydh, ↓ydi, ↓ydj, ↓ydk, ↓ydl, ↓ydm, ↓ydn, ↓ydo, ↓ydp, ↓yax, yay, yaz, yba, ybb, ybc, ybd, ybe, ybf, ybg, ybh, ybi, ybj, ybk, ybl, ybm, ybn, ybo, ybp, ybq, ybr, ybs, ybt, ybu, ybv, ares, tup, ybw, ybx, yby, argsE, dval, aop, ev, evs, evo, evp, fillL, addrOf, intOf?, ybz, yca, ycb, ycc, ycd, yce, ycf, zah, zag, reduceIte, Nat.reduceEqDiff, ycg, ych, yci, ycj, yck, ycl, ycm, ycn, yco, ycp, ycq, ycr, zap, zao, reduceCtorEq, zbb, zbc, zba, zaz, Nat.reduceAdd, Nat.reduceMul, zaq, zar, eqPtr, zae, zaf, zab, zaa, zac, zad, hload, hstore, zal, zam, Nat.reduceAdd, Nat.reduceLeDiff, zbb, zas, zat, one, zau, zaw, zav, splice, zaj, zak, zab, zaa, ycs, yct, ycu, ycv, ycw, ycx, ycy, ycz, zan, zai, zax, zay, and_self, true_and, and_true, lenV, yda, Nat.le_refl, if_true, ydq, ydr, yds, ne_eq, not_true_eq_false, not_false_eq_true, ← decide_not, Decidable.not_not, ydt, ydu, ydz, ydv, ydw, List.drop_zero, eq_self, Bool.false_eq_true, List.getElem?_toArray, yea, yeb, List.nil_append, List.cons_append, Bool.false_and, Int.reduceEq, Int.reduceLT, Int.reduceLE, Int.reduceNe, zbc, zbb, yec, yed, yee, yef, ydx, ydy, c0, c1, c2, c3]
          exact hk _ ff
        · have hne : ¬ t.len = 0 := by have := hok.len; omega
          have hfew := hok.few
          have hrem : binV .rem (.int .i64 k) (.int .i64 t.len) = some (.int .i64 (k.tmod t.len)) := binV_rem _ _ _ hne
          have hcnt : t.cnt ≤ 512 := Nat.le_trans List.countP_le_length hok.few
          have hbef : t.bef (k.tmod t.len) ≤ 512 := Nat.le_trans List.countP_le_length hok.few
          obtain ⟨w1, w2, w3⟩ := turn_wrap (by omega) hk64.2 hok.len.1 (by omega : 1 ≤ n ∧ n ≤ 32) hcnt hbef
          have hquo : binV .quo (.int .i64 k) (.int .i64 t.len) = some (.int .i64 (k.tdiv t.len)) := by rw [binV_quo _ _ _ hne, w1]
          have hr : ∀ x, binV .rem (.int .i64 x) (.int .i64 n) = some (.int .i64 (x.tmod n)) := fun x => binV_rem _ _ _ (by omega)
          obtain ⟨key, hkey⟩ : ∃ key, key = k.tmod t.len := ⟨_, rfl⟩
          simp only [↓yaa, ↓yab, ↓yac, ↓yad, ↓yae, ↓yaf, ↓yag, ↓yah, ↓yai, ↓ydb, ↓ydc, ↓ydd, ↓yde, ↓ydf, ↓ydg, ↓yao, ↓yap, ↓ydh, ↓ydi, ↓ydj, ↓ydk, ↓ydl, ↓ydm, ↓ydn, ↓ydo, ↓ydp, ↓yax, yay, yaz, yba, ybb, ybc, ybd, ybe, ybf, ybg, ybh, ybi, ybj, ybk, ybl, ybm, ybn, ybo, ybp, ybq, ybr, ybs, ybt, ybu, ybv, ares, tup, ybw, ybx, yby, argsE, dval, aop, ev, evs, evo, evp, fillL, addrOf, intOf?, ybz, yca, ycb, ycc, ycd, yce, ycf, zah, zag, reduceIte, Nat.reduceEqDiff, ycg, ych, yci, ycj, yck, ycl, ycm, ycn, yco, ycp, ycq, ycr, zap, zao, reduceCtorEq, zbb, zbc, zba, zaz, Nat.reduceAdd, Nat.reduceMul, zaq, zar, eqPtr, zae, zaf, zab, zaa, zac, zad, hload, hstore, zal, zam, Nat.reduceAdd, Nat.reduceLeDiff, zbb, zas, zat, one, zau, zaw, zav, splice, zaj, zak, zab, zaa, ycs, yct, ycu, ycv, ycw, ycx, ycy, ycz, zan, zai, zax, zay, and_self, true_and, and_true, lenV, yda, Nat.le_refl, if_true, ydq, ydr, yds, ne_eq, not_true_eq_false, not_false_eq_true, ← decide_not, Decidable.not_not, ydt, ydu, ydz, ydv, ydw, List.drop_zero, eq_self, Bool.false_eq_true, List.getElem?_toArray, yea, yeb, List.nil_append, List.cons_append, Bool.false_and, Int.reduceEq, Int.reduceLT, Int.reduceLE, Int.reduceNe, zbc, zbb, yec, yed, yee, yef, ydx, ydy, c0, c1, c2, c3]
          apply AW_loop_inv (fun k' e H2 => ∃ (i : Nat) (f : Bool), i + k' = t.cs.length ∧ e = [(1, .int .i64 k), (2, .int .i64 n), (3, .pointer (some ⟨H.length, 0, none⟩)), (8, .int .i64 (((t.cs.take i).countP shr3 : Nat) : Int)), (9, .int .i64 (((t.cs.take i).countP (bef3 (k.tmod t.len)) : Nat) : Int)), (10, .bool f), (11, .int .i64 (i : Int))] ∧ Frm [] H1 H2 ∧ (f = true ↔ ∃ x ∈ t.cs.take i, hit3 (k.tmod t.len) x)) _ t.cs.length
          · exact ⟨0, false, by omega, rfl, Frm.refl _ _, by simp⟩
          · rintro k' e H2 ⟨i, f, hik, rfl, hf, hx⟩
            have hle := @count_le t.cs i (bef3 (k.tmod t.len))
            have hle2 := @count_le t.cs i shr3
            have gb := hf.gets (f1.gets hg)
            have lb := hget_lt gb
            cases k' with
            | zero =>
              have g0 : ¬ (i : Int) < (t.cs.length : Int) := by omega
              have e1 : (t.cs.take i).countP shr3 = t.cnt := count_all _ (by omega)
              have e2 : (t.cs.take i).countP (bef3 (k.tmod t.len)) = t.bef (k.tmod t.len) := count_all _ (by omega)
              rw [List.take_of_length_le (by omega)] at hx
              rw [e1, e2]
              cases f with
              | false =>
                have hno := no (fun q => by have := hx.2 q.2; simp at this)
                rw [hno] at hk
                simp only [↓yaa, ↓yab, ↓yac, ↓yad, ↓yae, ↓yaf, ↓yag, ↓yah, ↓yai, ↓ydb, ↓ydc, ↓ydd, ↓yde, ↓ydf, ↓ydg, ↓yao, ↓yap, ↓ydh, ↓ydi, ↓ydj, ↓ydk, ↓ydl, ↓ydm, ↓ydn, ↓ydo, ↓ydp, ↓yax, yay, yaz, yba, ybb, ybc, ybd, ybe, ybf, ybg, ybh, ybi, ybj, ybk, ybl, ybm, ybn, ybo, ybp, ybq, ybr, ybs, ybt, ybu, ybv, ares, tup, ybw, ybx, yby, argsE, dval, aop, ev, evs, evo, evp, fillL, addrOf, intOf?, ybz, yca, ycb, ycc, ycd, yce, ycf, zah, zag, reduceIte, Nat.reduceEqDiff, ycg, ych, yci, ycj, yck, ycl, ycm, ycn, yco, ycp, ycq, ycr, zap, zao, reduceCtorEq, zbb, zbc, zba, zaz, Nat.reduceAdd, Nat.reduceMul, zaq, zar, eqPtr, zae, zaf, zab, zaa, zac, zad, hload, hstore, zal, zam, Nat.reduceAdd, Nat.reduceLeDiff, zbb, zas, zat, one, zau, zaw, zav, splice, zaj, zak, zab, zaa, ycs, yct, ycu, ycv, ycw, ycx, ycy, ycz, zan, zai, zax, zay, and_self, true_and, and_true, lenV, yda, Nat.le_refl, if_true, ydq, ydr, yds, ne_eq, not_true_eq_false, not_false_eq_true, ← decide_not, Decidable.not_not, ydt, ydu, ydz, ydv, ydw, List.drop_zero, eq_self, Bool.false_eq_true, List.getElem?_toArray, yea, yeb, List.nil_append, List.cons_append, Bool.false_and, Int.reduceEq, Int.reduceLT, Int.reduceLE, Int.reduceNe, zbc, zbb, yec, yed, yee, yef, ydx, ydy, g0, gb]
                exact hk _ (ff.then hf)
              | true =>
                have hyes : t.turn k n = (((k.tdiv t.len).tmod n * (t.cnt : Int) + (t.bef (k.tmod t.len) : Int)).tmod n, true) := by
                  unfold Tb.turn; rw [if_pos ⟨⟨hok, by omega, by omega⟩, hx.1 rfl⟩]
                rw [hyes] at hk
                simp only [↓yaa, ↓yab, ↓yac, ↓yad, ↓yae, ↓yaf, ↓yag, ↓yah, ↓yai, ↓ydb, ↓ydc, ↓ydd, ↓yde, ↓ydf, ↓ydg, ↓yao, ↓yap, ↓ydh, ↓ydi, ↓ydj, ↓ydk, ↓ydl, ↓ydm, ↓ydn, ↓ydo, ↓ydp, ↓yax, yay, yaz, yba, ybb, ybc, ybd, ybe, ybf, ybg, ybh, ybi, ybj, ybk, ybl, ybm, ybn, ybo, ybp, ybq, ybr, ybs, ybt, ybu, ybv, ares, tup, ybw, ybx, yby, argsE, dval, aop, ev, evs, evo, evp, fillL, addrOf, intOf?, ybz, yca, ycb, ycc, ycd, yce, ycf, zah, zag, reduceIte, Nat.reduceEqDiff, ycg, ych, yci, ycj, yck, ycl, ycm, ycn, yco, ycp, ycq, ycr, zap, zao, reduceCtorEq, zbb, zbc, zba, zaz, Nat.reduceAdd, Nat.reduceMul, zaq, zar, eqPtr, zae, zaf, zab, zaa, zac, zad, hload, hstore, zal, zam, Nat.reduceAdd, Nat.reduceLeDiff, zbb, zas, zat, one, zau, zaw, zav, splice, zaj, zak, zab, zaa, ycs, yct, ycu, ycv, ycw, ycx, ycy, ycz, zan, zai, zax, zay, and_self, true_and, and_true, lenV, yda, Nat.le_refl, if_true, ydq, ydr, yds, ne_eq, not_true_eq_false, not_false_eq_true, ← decide_not, Decidable.not_not, ydt, ydu, ydz, ydv, ydw, List.drop_zero, eq_self, Bool.false_eq_true, List.getElem?_toArray, yea, yeb, List.nil_append, List.cons_append, Bool.false_and, Int.reduceEq, Int.reduceLT, Int.reduceLE, Int.reduceNe, zbc, zbb, yec, yed, yee, yef, ydx, ydy, g0, gb, hquo, hr, w2, w3]
                exact hk _ (ff.then hf)
            | succ k' =>
              obtain ⟨x, hix⟩ : ∃ x, t.cs[i]? = some x := ⟨_, List.getElem?_eq_getElem (by omega)⟩
              obtain ⟨b, o, w, cs, rfl, rfl, q1, q2, q3, q4⟩ := ((hG.frame0 f1).frame0 hf) i x hix
              have lq := hget_lt q1
              have g0 : (i : Int) < (t.cs.length : Int) := by omega
              have g1 : (0 : Int) ≤ (i : Int) := by omega
              have g3 : IntKind.i64.wrap ((i : Int) + 1) = ((i + 1 : Nat) : Int) := by rw [wrap_i64 (by omega) (by omega)]; omega
              have hcn := count_next (bef3 (k.tmod t.len)) hix
              have hcn2 := count_next shr3 hix
              have f2 := hf.push (some (⟨true, [.int .i64 x.s, .int .i64 x.c, .int .i64 x.w, .bool x.b, .int .i64 x.p, .int .i64 x.n]⟩ : Blk))
              by_cases c4 : x.w = 3
              · have c4' := eq_true c4
                rw [show shr3 x = true by simp [shr3, c4]] at hcn2
                simp only [if_true] at hcn2
                have g4 : IntKind.i64.wrap ((((t.cs.take i).countP shr3 : Nat) : Int) + 1) = (((t.cs.take (i + 1)).countP shr3 : Nat) : Int) := by rw [wrap_i64 (by omega) (by omega), hcn2]; omega
                by_cases c5 : x.s < k.tmod t.len
                · have c6 := eq_false (show ¬ x.s = k.tmod t.len by omega)
                  rw [show bef3 (k.tmod t.len) x = true by simp [bef3, c4]; omega] at hcn
                  simp only [if_true] at hcn
                  have g5 : IntKind.i64.wrap ((((t.cs.take i).countP (bef3 (k.tmod t.len)) : Nat) : Int) + 1) = (((t.cs.take (i + 1)).countP (bef3 (k.tmod t.len)) : Nat) : Int) := by rw [wrap_i64 (by omega) (by omega), hcn]; omega
                  simp only [↓yaa, ↓yab, ↓yac, ↓yad, ↓yae, ↓yaf, ↓yag, ↓yah, ↓yai, ↓ydb, ↓ydc, ↓ydd, ↓yde, ↓ydf, ↓ydg, ↓yao, ↓yap, ↓ydh, ↓ydi, ↓ydj, ↓ydk, ↓ydl, ↓ydm, ↓ydn, ↓ydo, ↓ydp, ↓yax, yay, yaz, yba, ybb, ybc, ybd, ybe, ybf, ybg, ybh, ybi, ybj, ybk, ybl, ybm, ybn, ybo, ybp, ybq, ybr, ybs, ybt, ybu, ybv, ares, tup, ybw, ybx, yby, argsE, dval, aop, ev, evs, evo, evp, fillL, addrOf, intOf?, ybz, yca, ycb, ycc, ycd, yce, ycf, zah, zag, reduceIte, Nat.reduceEqDiff, ycg, ych, yci, ycj, yck, ycl, ycm, ycn, yco, ycp, ycq, ycr, zap, zao, reduceCtorEq, zbb, zbc, zba, zaz, Nat.reduceAdd, Nat.reduceMul, zaq, zar, eqPtr, zae, zaf, zab, zaa, zac, zad, hload, hstore, zal, zam, Nat.reduceAdd, Nat.reduceLeDiff, zbb, zas, zat, one, zau, zaw, zav, splice, zaj, zak, zab, zaa, ycs, yct, ycu, ycv, ycw, ycx, ycy, ycz, zan, zai, zax, zay, and_self, true_and, and_true, lenV, yda, Nat.le_refl, if_true, ydq, ydr, yds, ne_eq, not_true_eq_false, not_false_eq_true, ← decide_not, Decidable.not_not, ydt, ydu, ydz, ydv, ydw, List.drop_zero, eq_self, Bool.false_eq_true, List.getElem?_toArray, yea, yeb, List.nil_append, List.cons_append, Bool.false_and, Int.reduceEq, Int.reduceLT, Int.reduceLE, Int.reduceNe, zbc, zbb, yec, yed, yee, yef, ydx, ydy, g0, g1, g3, g4, g5, Int.toNat_natCast, q1, q2, q3, gb, lb, lq, yem, hrem, tk6, ls6, sz6, c4', c5, c6]
                  refine ⟨k', by omega, i + 1, f, by omega, rfl, f2, ?_⟩
                  rw [hx, take_next hix]
                  refine ⟨fun ⟨y, hy, hh⟩ => ⟨y, List.mem_append_left _ hy, hh⟩, fun ⟨y, hy, hh⟩ => ?_⟩
                  rcases List.mem_append.1 hy with hy | hy
                  · exact ⟨y, hy, hh⟩
                  · rw [List.mem_singleton] at hy; subst hy; have := hh.2; omega
                · rw [show bef3 (k.tmod t.len) x = false by simp [bef3]; omega] at hcn
                  simp only [Bool.false_eq_true, if_false, zba] at hcn
                  by_cases c6 : x.s = k.tmod t.len
                  · have c6' := eq_true c6
                    simp only [↓yaa, ↓yab, ↓yac, ↓yad, ↓yae, ↓yaf, ↓yag, ↓yah, ↓yai, ↓ydb, ↓ydc, ↓ydd, ↓yde, ↓ydf, ↓ydg, ↓yao, ↓yap, ↓ydh, ↓ydi, ↓ydj, ↓ydk, ↓ydl, ↓ydm, ↓ydn, ↓ydo, ↓ydp, ↓yax, yay, yaz, yba, ybb, ybc, ybd, ybe, ybf, ybg, ybh, ybi, ybj, ybk, ybl, ybm, ybn, ybo, ybp, ybq, ybr, ybs, ybt, ybu, ybv, ares, tup, ybw, ybx, yby, argsE, dval, aop, ev, evs, evo, evp, fillL, addrOf, intOf?, ybz, yca, ycb, ycc, ycd, yce, ycf, zah, zag, reduceIte, Nat.reduceEqDiff, ycg, ych, yci, ycj, yck, ycl, ycm, ycn, yco, ycp, ycq, ycr, zap, zao, reduceCtorEq, zbb, zbc, zba, zaz, Nat.reduceAdd, Nat.reduceMul, zaq, zar, eqPtr, zae, zaf, zab, zaa, zac, zad, hload, hstore, zal, zam, Nat.reduceAdd, Nat.reduceLeDiff, zbb, zas, zat, one, zau, zaw, zav, splice, zaj, zak, zab, zaa, ycs, yct, ycu, ycv, ycw, ycx, ycy, ycz, zan, zai, zax, zay, and_self, true_and, and_true, lenV, yda, Nat.le_refl, if_true, ydq, ydr, yds, ne_eq, not_true_eq_false, not_false_eq_true, ← decide_not, Decidable.not_not, ydt, ydu, ydz, ydv, ydw, List.drop_zero, eq_self, Bool.false_eq_true, List.getElem?_toArray, yea, yeb, List.nil_append, List.cons_append, Bool.false_and, Int.reduceEq, Int.reduceLT, Int.reduceLE, Int.reduceNe, zbc, zbb, yec, yed, yee, yef, ydx, ydy, g0, g1, g3, g4, Int.toNat_natCast, q1, q2, q3, gb, lb, lq, yem, hrem, tk6, ls6, sz6, c4', c5, c6']
                    refine ⟨k', by omega, i + 1, true, by omega, by rw [hcn], f2, ?_⟩
                    rw [take_next hix]
                    exact ⟨fun _ => ⟨x, List.mem_append_right _ (List.mem_singleton.2 rfl), c4, c6⟩, fun _ => rfl⟩
                  · have c6' := eq_false c6
                    simp only [↓yaa, ↓yab, ↓yac, ↓yad, ↓yae, ↓yaf, ↓yag, ↓yah, ↓yai, ↓ydb, ↓ydc, ↓ydd, ↓yde, ↓ydf, ↓ydg, ↓yao, ↓yap, ↓ydh, ↓ydi, ↓ydj, ↓ydk, ↓ydl, ↓ydm, ↓ydn, ↓ydo, ↓ydp, ↓yax, yay, yaz, yba, ybb, ybc, ybd, ybe, ybf, ybg, ybh, ybi, ybj, ybk, ybl, ybm, ybn, ybo, ybp, ybq, ybr, ybs, ybt, ybu, ybv, ares, tup, ybw, ybx, yby, argsE, dval, aop, ev, evs, evo, evp, fillL, addrOf, intOf?, ybz, yca, ycb, ycc, ycd, yce, ycf, zah, zag, reduceIte, Nat.reduceEqDiff, ycg, ych, yci, ycj, yck, ycl, ycm, ycn, yco, ycp, ycq, ycr, zap, zao, reduceCtorEq, zbb, zbc, zba, zaz, Nat.reduceAdd, Nat.reduceMul, zaq, zar, eqPtr, zae, zaf, zab, zaa, zac, zad, hload, hstore, zal, zam, Nat.reduceAdd, Nat.reduceLeDiff, zbb, zas, zat, one, zau, zaw, zav, splice, zaj, zak, zab, zaa, ycs, yct, ycu, ycv, ycw, ycx, ycy, ycz, zan, zai, zax, zay, and_self, true_and, and_true, lenV, yda, Nat.le_refl, if_true, ydq, ydr, yds, ne_eq, not_true_eq_false, not_false_eq_true, ← decide_not, Decidable.not_not, ydt, ydu, ydz, ydv, ydw, List.drop_zero, eq_self, Bool.false_eq_true, List.getElem?_toArray, yea, yeb, List.nil_append, List.cons_append, Bool.false_and, Int.reduceEq, Int.reduceLT, Int.reduceLE, Int.reduceNe, zbc, zbb, yec, yed, yee, yef, ydx, ydy, g0, g1, g3, g4, Int.toNat_natCast, q1, q2, q3, gb, lb, lq, yem, hrem, tk6, ls6, sz6, c4', c5, c6']
                    refine ⟨k', by omega, i + 1, f, by omega, by rw [hcn], f2, ?_⟩
                    rw [hx, take_next hix]
                    refine ⟨fun ⟨y, hy, hh⟩ => ⟨y, List.mem_append_left _ hy, hh⟩, fun ⟨y, hy, hh⟩ => ?_⟩
                    rcases List.mem_append.1 hy with hy | hy
                    · exact ⟨y, hy, hh⟩
                    · rw [List.mem_singleton] at hy; subst hy; exact absurd hh.2 c6
              · have c4' := eq_false c4
                rw [show shr3 x = false by simp [shr3, c4]] at hcn2
                rw [show bef3 (k.tmod t.len) x = false by simp [bef3, c4]] at hcn
                simp only [Bool.false_eq_true, if_false, zba] at hcn hcn2
                simp only [↓yaa, ↓yab, ↓yac, ↓yad, ↓yae, ↓yaf, ↓yag, ↓yah, ↓yai, ↓ydb, ↓ydc, ↓ydd, ↓yde, ↓ydf, ↓ydg, ↓yao, ↓yap, ↓ydh, ↓ydi, ↓ydj, ↓ydk, ↓ydl, ↓ydm, ↓ydn, ↓ydo, ↓ydp, ↓yax, yay, yaz, yba, ybb, ybc, ybd, ybe, ybf, ybg, ybh, ybi, ybj, ybk, ybl, ybm, ybn, ybo, ybp, ybq, ybr, ybs, ybt, ybu, ybv, ares, tup, ybw, ybx, yby, argsE, dval, aop, ev, evs, evo, evp, fillL, addrOf, intOf?, ybz, yca, ycb, ycc, ycd, yce, ycf, zah, zag, reduceIte, Nat.reduceEqDiff, ycg, ych, yci, ycj, yck, ycl, ycm, ycn, yco, ycp, ycq, ycr, zap, zao, reduceCtorEq, zbb, zbc, zba, zaz, Nat.reduceAdd, Nat.reduceMul, zaq, zar, eqPtr, zae, zaf, zab, zaa, zac, zad, hload, hstore, zal, zam, Nat.reduceAdd, Nat.reduceLeDiff, zbb, zas, zat, one, zau, zaw, zav, splice, zaj, zak, zab, zaa, ycs, yct, ycu, ycv, ycw, ycx, ycy, ycz, zan, zai, zax, zay, and_self, true_and, and_true, lenV, yda, Nat.le_refl, if_true, ydq, ydr, yds, ne_eq, not_true_eq_false, not_false_eq_true, ← decide_not, Decidable.not_not, ydt, ydu, ydz, ydv, ydw, List.drop_zero, eq_self, Bool.false_eq_true, List.getElem?_toArray, yea, yeb, List.nil_append, List.cons_append, Bool.false_and, Int.reduceEq, Int.reduceLT, Int.reduceLE, Int.reduceNe, zbc, zbb, yec, yed, yee, yef, ydx, ydy, g0, g1, g3, Int.toNat_natCast, q1, q2, q3, gb, lb, lq, yem, tk6, ls6, sz6, c4']
                refine ⟨k', by omega, i + 1, f, by omega, by rw [hcn, hcn2], f2, ?_⟩
                rw [hx, take_next hix]
                refine ⟨fun ⟨y, hy, hh⟩ => ⟨y, List.mem_append_left _ hy, hh⟩, fun ⟨y, hy, hh⟩ => ?_⟩
                rcases List.mem_append.1 hy with hy | hy
                · exact ⟨y, hy, hh⟩
                · rw [List.mem_singleton] at hy; subst hy; exact absurd hh.1 c4
  · have hno := no (fun q => c0 (hm.2 q.1.1))
    rw [hno] at hk
    simp only [↓yaa, ↓yab, ↓yac, ↓yad, ↓yae, ↓yaf, ↓yag, ↓yah, ↓yai, ↓ydb, ↓ydc, ↓ydd, ↓yde, ↓ydf, ↓ydg, ↓yao, ↓yap, ↓ydh, ↓ydi, ↓ydj, ↓ydk, ↓ydl, ↓ydm, ↓ydn, ↓ydo, ↓ydp, ↓yax, yay, yaz, yba, ybb, ybc, ybd, ybe, ybf, ybg, ybh, ybi, ybj, ybk, ybl, ybm, ybn, ybo, ybp, ybq, ybr, ybs, ybt, ybu, ybv, ares, tup, ybw, ybx, yby, argsE, dval, aop, ev, evs, evo, evp, fillL, addrOf, intOf?, ybz, yca, ycb, ycc, ycd, yce, ycf, zah, zag, reduceIte, Nat.reduceEqDiff, ycg, ych, yci, ycj, yck, ycl, ycm, ycn, yco, ycp, ycq, ycr, zap, zao, reduceCtorEq, zbb, zbc, zba, zaz, Nat.reduceAdd, Nat.reduceMul, zaq, zar, eqPtr, zae, zaf, zab, zaa, zac, zad, hload, hstore, zal, zam, Nat.reduceAdd, Nat.reduceLeDiff, zbb, zas, zat, one, zau, zaw, zav, splice, zaj, zak, zab, zaa, ycs, yct, ycu, ycv, ycw, ycx, ycy, ycz, zan, zai, zax, zay, and_self, true_and, and_true, lenV, yda, Nat.le_refl, if_true, ydq, ydr, yds, ne_eq, not_true_eq_false, not_false_eq_true, ← decide_not, Decidable.not_not, ydt, ydu, ydz, ydv, ydw, List.drop_zero, eq_self, Bool.false_eq_true, List.getElem?_toArray, yea, yeb, List.nil_append, List.cons_append, Bool.false_and, Int.reduceEq, Int.reduceLT, Int.reduceLE, Int.reduceNe, zbc, zbb, yec, yed, yee, yef, ydx, ydy, c0]
    exact hk _ ff

end Go.Proofs.Ytejcabdejoameaa.AI

