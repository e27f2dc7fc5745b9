/- BeaconOrder holds, whatever the input. -/
import Derived.Calls
import Derived.Orders
import Derived.RowKit3
import Derived.KernelRfl
import Derived.WalkKit
import Derived.Laws.IdiomStrings
import Derived.Laws.StructEq
import Derived.LoopN
import Derived.Test.YtejcabdejoameaaRows
import Derived.ProofKit
import Derived.OpenShut
import Derived.ChangeMaps5
import Derived.Test.YtejcabdejoameaaBo6
/- BeaconOrder in the interpreter. -/
set_option linter.unusedSimpArgs false
set_option maxHeartbeats 8000000
namespace Go.Proofs.Ytejcabdejoameaa.AI
open Go

theorem better_irrefl (a : Fr) : ¬ a.better a := by unfold Fr.better; omega
theorem better_asymm {a b : Fr} (h : a.better b) : ¬ b.better a := by
  unfold Fr.better at *
  intro k
  have h := h.2.2
  have k := k.2.2
  omega
theorem better_trans {a b c : Fr} (h : a.better b) (k : b.better c) : a.better c := by
  unfold Fr.better at *
  refine ⟨h.1, k.2.1, ?_⟩
  have h := h.2.2
  have k := k.2.2
  omega
theorem better_total {a b : Fr} (ha : a.Bcn) (hb : b.Bcn) (h : ¬ a.source = b.source) (k : ¬ a.better b) : b.better a := by
  unfold Fr.better at *
  refine ⟨hb, ha, ?_⟩
  have : ¬ (b.epoch < a.epoch ∨ a.epoch = b.epoch ∧ (a.rank < b.rank ∨ a.rank = b.rank ∧ a.source < b.source)) := fun q => k ⟨ha, hb, q⟩
  omega
theorem hget_app3_0 {H : Heap} {a b c : Option Blk} : hget (H ++ [a] ++ [b] ++ [c]) H.length = a := by rw [hget_append_lt (by simp)]; exact ydx
theorem hget_app3_1 {H : Heap} {a b c : Option Blk} : hget (H ++ [a] ++ [b] ++ [c]) (H.length + 1) = b := by rw [hget_append_lt (by simp)]; exact ydv
theorem hget_app3_2 {H : Heap} {a b c : Option Blk} : hget (H ++ [a] ++ [b] ++ [c]) (H.length + 2) = c := by rw [hget_app]; simp

theorem border {H : Heap} {a b c : Fr} (_ : a.I64) (_ : b.I64) (_ : c.I64) : Op1 (AC tbl 106 [a.v, b.v, c.v] H) fun r _ => r = .bool true := by
  apply AC_wp (F := F106) rfl (by simp [F106]) (.inl rfl)
  have haa := fun G => f129 a a G
  have hab := fun G => f129 a b G
  have hba := fun G => f129 b a G
  have hbc := fun G => f129 b c G
  have hac := fun G => f129 a c G
  have hva := fun G => f127 a G
  have hvb := fun G => f127 b G
  have irr := better_irrefl a
  have ha3 := @hget_app3_0 H (some (⟨true, [.int .i64 a.kind, .int .i64 a.source, .int .i64 a.target, .int .i64 a.list, .int .i64 a.seq, .int .i64 a.flow, .int .i64 a.number, .int .i64 a.error, .int .i64 a.slot, .int .i64 a.rank, .int .i64 a.epoch, .string a.data]⟩ : Blk)) (some (⟨true, [.int .i64 b.kind, .int .i64 b.source, .int .i64 b.target, .int .i64 b.list, .int .i64 b.seq, .int .i64 b.flow, .int .i64 b.number, .int .i64 b.error, .int .i64 b.slot, .int .i64 b.rank, .int .i64 b.epoch, .string b.data]⟩ : Blk)) (some (⟨true, [.int .i64 c.kind, .int .i64 c.source, .int .i64 c.target, .int .i64 c.list, .int .i64 c.seq, .int .i64 c.flow, .int .i64 c.number, .int .i64 c.error, .int .i64 c.slot, .int .i64 c.rank, .int .i64 c.epoch, .string c.data]⟩ : Blk))
  have hb3 := @hget_app3_1 H (some (⟨true, [.int .i64 a.kind, .int .i64 a.source, .int .i64 a.target, .int .i64 a.list, .int .i64 a.seq, .int .i64 a.flow, .int .i64 a.number, .int .i64 a.error, .int .i64 a.slot, .int .i64 a.rank, .int .i64 a.epoch, .string a.data]⟩ : Blk)) (some (⟨true, [.int .i64 b.kind, .int .i64 b.source, .int .i64 b.target, .int .i64 b.list, .int .i64 b.seq, .int .i64 b.flow, .int .i64 b.number, .int .i64 b.error, .int .i64 b.slot, .int .i64 b.rank, .int .i64 b.epoch, .string b.data]⟩ : Blk)) (some (⟨true, [.int .i64 c.kind, .int .i64 c.source, .int .i64 c.target, .int .i64 c.list, .int .i64 c.seq, .int .i64 c.flow, .int .i64 c.number, .int .i64 c.error, .int .i64 c.slot, .int .i64 c.rank, .int .i64 c.epoch, .string c.data]⟩ : Blk))
  have hc3 := @hget_app3_2 H (some (⟨true, [.int .i64 a.kind, .int .i64 a.source, .int .i64 a.target, .int .i64 a.list, .int .i64 a.seq, .int .i64 a.flow, .int .i64 a.number, .int .i64 a.error, .int .i64 a.slot, .int .i64 a.rank, .int .i64 a.epoch, .string a.data]⟩ : Blk)) (some (⟨true, [.int .i64 b.kind, .int .i64 b.source, .int .i64 b.target, .int .i64 b.list, .int .i64 b.seq, .int .i64 b.flow, .int .i64 b.number, .int .i64 b.error, .int .i64 b.slot, .int .i64 b.rank, .int .i64 b.epoch, .string b.data]⟩ : Blk)) (some (⟨true, [.int .i64 c.kind, .int .i64 c.source, .int .i64 c.target, .int .i64 c.list, .int .i64 c.seq, .int .i64 c.flow, .int .i64 c.number, .int .i64 c.error, .int .i64 c.slot, .int .i64 c.rank, .int .i64 c.epoch, .string c.data]⟩ : Blk))
  have happ1 : ∀ v : Value, (#[] : Array Value).toList ++ [v] ++ (#[] : Array Value).toList = [v] := fun _ => rfl
  have av : a.v = .agg #[.int .i64 a.kind, .int .i64 a.source, .int .i64 a.target, .int .i64 a.list, .int .i64 a.seq, .int .i64 a.flow, .int .i64 a.number, .int .i64 a.error, .int .i64 a.slot, .int .i64 a.rank, .int .i64 a.epoch, .string a.data] := rfl
  have bv : b.v = .agg #[.int .i64 b.kind, .int .i64 b.source, .int .i64 b.target, .int .i64 b.list, .int .i64 b.seq, .int .i64 b.flow, .int .i64 b.number, .int .i64 b.error, .int .i64 b.slot, .int .i64 b.rank, .int .i64 b.epoch, .string b.data] := rfl
  have cv : c.v = .agg #[.int .i64 c.kind, .int .i64 c.source, .int .i64 c.target, .int .i64 c.list, .int .i64 c.seq, .int .i64 c.flow, .int .i64 c.number, .int .i64 c.error, .int .i64 c.slot, .int .i64 c.rank, .int .i64 c.epoch, .string c.data] := rfl
  rw [av, bv] at hab hba
  rw [av] at haa hva
  rw [bv] at hvb
  rw [bv, cv] at hbc
  rw [av, cv] at hac
  rw [av, bv, cv]
  by_cases h1 : (200 : Int) < (a.data.size : Int)
  · simp only [F106, ↓yaa, ↓yab, ↓yac, ↓yad, ↓yae, ↓yaf, ↓yag, ↓yah, ↓yai, ↓ydb, ↓ydc, ↓ydd, ↓yde, ↓ydf, ↓ydg, ↓yao, ↓yap, ↓ydh, ↓ydi, ↓ydj, ↓ydk, ↓ydl, ↓ydm, ↓ydn, ↓ydo, ↓ydp, ↓yax, yay, yaz, yba, ybb, ybc, ybd, ybe, ybf, ybg, ybh, ybi, ybj, ybk, ybl, ybm, ybn, ybo, ybp, ybq, ybr, ybs, ybt, ybu, ybv, ares, tup, ybw, ybx, yby, argsE, dval, aop, ev, evs, evo, evp, fillL, addrOf, intOf?, ybz, yca, ycb, ycc, ycd, yce, ycf, zah, zag, reduceIte, Nat.reduceEqDiff, ycg, ych, yci, ycj, yck, ycl, ycm, ycn, yco, ycp, ycq, ycr, zap, zao, reduceCtorEq, zbb, zbc, zba, zaz, Nat.reduceAdd, Nat.reduceMul, zaq, zar, eqPtr, zae, zaf, zab, zaa, zac, zad, hload, hstore, zal, zam, Nat.reduceAdd, Nat.reduceLeDiff, zbb, zas, zat, one, zau, zaw, zav, splice, zaj, zak, zab, zaa, ycs, yct, ycu, ycv, ycw, ycx, ycy, ycz, zan, zai, zax, zay, and_self, true_and, and_true, lenV, yda, Nat.le_refl, if_true, ydq, ydr, yds, ne_eq, not_true_eq_false, not_false_eq_true, ← decide_not, Decidable.not_not, ydt, ydu, ydz, ydv, ydw, List.drop_zero, eq_self, Bool.false_eq_true, List.getElem?_toArray, yea, yeb, List.nil_append, List.cons_append, Bool.false_and, Int.reduceEq, Int.reduceLT, Int.reduceLE, Int.reduceNe, zbc, zbb, yec, yed, yee, yef, ydx, ydy, awake_any, hget_app3_0, hget_app3_1, hget_app3_2, h1]
  · by_cases h2 : (200 : Int) < (b.data.size : Int)
    · simp only [F106, ↓yaa, ↓yab, ↓yac, ↓yad, ↓yae, ↓yaf, ↓yag, ↓yah, ↓yai, ↓ydb, ↓ydc, ↓ydd, ↓yde, ↓ydf, ↓ydg, ↓yao, ↓yap, ↓ydh, ↓ydi, ↓ydj, ↓ydk, ↓ydl, ↓ydm, ↓ydn, ↓ydo, ↓ydp, ↓yax, yay, yaz, yba, ybb, ybc, ybd, ybe, ybf, ybg, ybh, ybi, ybj, ybk, ybl, ybm, ybn, ybo, ybp, ybq, ybr, ybs, ybt, ybu, ybv, ares, tup, ybw, ybx, yby, argsE, dval, aop, ev, evs, evo, evp, fillL, addrOf, intOf?, ybz, yca, ycb, ycc, ycd, yce, ycf, zah, zag, reduceIte, Nat.reduceEqDiff, ycg, ych, yci, ycj, yck, ycl, ycm, ycn, yco, ycp, ycq, ycr, zap, zao, reduceCtorEq, zbb, zbc, zba, zaz, Nat.reduceAdd, Nat.reduceMul, zaq, zar, eqPtr, zae, zaf, zab, zaa, zac, zad, hload, hstore, zal, zam, Nat.reduceAdd, Nat.reduceLeDiff, zbb, zas, zat, one, zau, zaw, zav, splice, zaj, zak, zab, zaa, ycs, yct, ycu, ycv, ycw, ycx, ycy, ycz, zan, zai, zax, zay, and_self, true_and, and_true, lenV, yda, Nat.le_refl, if_true, ydq, ydr, yds, ne_eq, not_true_eq_false, not_false_eq_true, ← decide_not, Decidable.not_not, ydt, ydu, ydz, ydv, ydw, List.drop_zero, eq_self, Bool.false_eq_true, List.getElem?_toArray, yea, yeb, List.nil_append, List.cons_append, Bool.false_and, Int.reduceEq, Int.reduceLT, Int.reduceLE, Int.reduceNe, zbc, zbb, yec, yed, yee, yef, ydx, ydy, awake_any, hget_app3_0, hget_app3_1, hget_app3_2, h1, h2]
    · by_cases h3 : (200 : Int) < (c.data.size : Int)
      · simp only [F106, ↓yaa, ↓yab, ↓yac, ↓yad, ↓yae, ↓yaf, ↓yag, ↓yah, ↓yai, ↓ydb, ↓ydc, ↓ydd, ↓yde, ↓ydf, ↓ydg, ↓yao, ↓yap, ↓ydh, ↓ydi, ↓ydj, ↓ydk, ↓ydl, ↓ydm, ↓ydn, ↓ydo, ↓ydp, ↓yax, yay, yaz, yba, ybb, ybc, ybd, ybe, ybf, ybg, ybh, ybi, ybj, ybk, ybl, ybm, ybn, ybo, ybp, ybq, ybr, ybs, ybt, ybu, ybv, ares, tup, ybw, ybx, yby, argsE, dval, aop, ev, evs, evo, evp, fillL, addrOf, intOf?, ybz, yca, ycb, ycc, ycd, yce, ycf, zah, zag, reduceIte, Nat.reduceEqDiff, ycg, ych, yci, ycj, yck, ycl, ycm, ycn, yco, ycp, ycq, ycr, zap, zao, reduceCtorEq, zbb, zbc, zba, zaz, Nat.reduceAdd, Nat.reduceMul, zaq, zar, eqPtr, zae, zaf, zab, zaa, zac, zad, hload, hstore, zal, zam, Nat.reduceAdd, Nat.reduceLeDiff, zbb, zas, zat, one, zau, zaw, zav, splice, zaj, zak, zab, zaa, ycs, yct, ycu, ycv, ycw, ycx, ycy, ycz, zan, zai, zax, zay, and_self, true_and, and_true, lenV, yda, Nat.le_refl, if_true, ydq, ydr, yds, ne_eq, not_true_eq_false, not_false_eq_true, ← decide_not, Decidable.not_not, ydt, ydu, ydz, ydv, ydw, List.drop_zero, eq_self, Bool.false_eq_true, List.getElem?_toArray, yea, yeb, List.nil_append, List.cons_append, Bool.false_and, Int.reduceEq, Int.reduceLT, Int.reduceLE, Int.reduceNe, zbc, zbb, yec, yed, yee, yef, ydx, ydy, awake_any, hget_app3_0, hget_app3_1, hget_app3_2, h1, h2, h3]
      · simp only [irr, zbc] at haa
        -- what is said at the end
        have fin1 : ∀ P Q : Prop, [Decidable P] → [Decidable Q] → decide P = true → True := fun _ _ _ _ _ => trivial
        by_cases xab : a.better b
        · have xba := better_asymm xab
          have va : a.Bcn := xab.1
          have vb : b.Bcn := xab.2.1
          simp only [xab, xba, va, vb, zbb, zbc] at hab hba hva hvb
          by_cases xbc : b.better c
          · have xac := better_trans xab xbc
            simp only [xbc, xac, zbb] at hbc hac
            by_cases hs0 : a.source = b.source
            · have hs := eq_true hs0
              simp only [F106, ↓yaa, ↓yab, ↓yac, ↓yad, ↓yae, ↓yaf, ↓yag, ↓yah, ↓yai, ↓ydb, ↓ydc, ↓ydd, ↓yde, ↓ydf, ↓ydg, ↓yao, ↓yap, ↓ydh, ↓ydi, ↓ydj, ↓ydk, ↓ydl, ↓ydm, ↓ydn, ↓ydo, ↓ydp, ↓yax, yay, yaz, yba, ybb, ybc, ybd, ybe, ybf, ybg, ybh, ybi, ybj, ybk, ybl, ybm, ybn, ybo, ybp, ybq, ybr, ybs, ybt, ybu, ybv, ares, tup, ybw, ybx, yby, argsE, dval, aop, ev, evs, evo, evp, fillL, addrOf, intOf?, ybz, yca, ycb, ycc, ycd, yce, ycf, zah, zag, reduceIte, Nat.reduceEqDiff, ycg, ych, yci, ycj, yck, ycl, ycm, ycn, yco, ycp, ycq, ycr, zap, zao, reduceCtorEq, zbb, zbc, zba, zaz, Nat.reduceAdd, Nat.reduceMul, zaq, zar, eqPtr, zae, zaf, zab, zaa, zac, zad, hload, hstore, zal, zam, Nat.reduceAdd, Nat.reduceLeDiff, zbb, zas, zat, one, zau, zaw, zav, splice, zaj, zak, zab, zaa, ycs, yct, ycu, ycv, ycw, ycx, ycy, ycz, zan, zai, zax, zay, and_self, true_and, and_true, lenV, yda, Nat.le_refl, if_true, ydq, ydr, yds, ne_eq, not_true_eq_false, not_false_eq_true, ← decide_not, Decidable.not_not, ydt, ydu, ydz, ydv, ydw, List.drop_zero, eq_self, Bool.false_eq_true, List.getElem?_toArray, yea, yeb, List.nil_append, List.cons_append, Bool.false_and, Int.reduceEq, Int.reduceLT, Int.reduceLE, Int.reduceNe, zbc, zbb, yec, yed, yee, yef, ydx, ydy, awake_any, happ1, h1, h2, h3, yem, ha3, hb3, hc3, hab, hba, hbc, haa, hac, hva, hvb, take12, list12, Same1_fr, hs]
            · have hs := eq_false hs0
              simp only [F106, ↓yaa, ↓yab, ↓yac, ↓yad, ↓yae, ↓yaf, ↓yag, ↓yah, ↓yai, ↓ydb, ↓ydc, ↓ydd, ↓yde, ↓ydf, ↓ydg, ↓yao, ↓yap, ↓ydh, ↓ydi, ↓ydj, ↓ydk, ↓ydl, ↓ydm, ↓ydn, ↓ydo, ↓ydp, ↓yax, yay, yaz, yba, ybb, ybc, ybd, ybe, ybf, ybg, ybh, ybi, ybj, ybk, ybl, ybm, ybn, ybo, ybp, ybq, ybr, ybs, ybt, ybu, ybv, ares, tup, ybw, ybx, yby, argsE, dval, aop, ev, evs, evo, evp, fillL, addrOf, intOf?, ybz, yca, ycb, ycc, ycd, yce, ycf, zah, zag, reduceIte, Nat.reduceEqDiff, ycg, ych, yci, ycj, yck, ycl, ycm, ycn, yco, ycp, ycq, ycr, zap, zao, reduceCtorEq, zbb, zbc, zba, zaz, Nat.reduceAdd, Nat.reduceMul, zaq, zar, eqPtr, zae, zaf, zab, zaa, zac, zad, hload, hstore, zal, zam, Nat.reduceAdd, Nat.reduceLeDiff, zbb, zas, zat, one, zau, zaw, zav, splice, zaj, zak, zab, zaa, ycs, yct, ycu, ycv, ycw, ycx, ycy, ycz, zan, zai, zax, zay, and_self, true_and, and_true, lenV, yda, Nat.le_refl, if_true, ydq, ydr, yds, ne_eq, not_true_eq_false, not_false_eq_true, ← decide_not, Decidable.not_not, ydt, ydu, ydz, ydv, ydw, List.drop_zero, eq_self, Bool.false_eq_true, List.getElem?_toArray, yea, yeb, List.nil_append, List.cons_append, Bool.false_and, Int.reduceEq, Int.reduceLT, Int.reduceLE, Int.reduceNe, zbc, zbb, yec, yed, yee, yef, ydx, ydy, awake_any, happ1, h1, h2, h3, yem, ha3, hb3, hc3, hab, hba, hbc, haa, hac, hva, hvb, take12, list12, Same1_fr, hs, bne_self_eq_false, BEq.rfl, Bool.true_bne, zar, zao, beq_self_eq_true]
              try rfl
          · simp only [xbc, zbc] at hbc
            by_cases hs0 : a.source = b.source
            · have hs := eq_true hs0
              simp only [F106, ↓yaa, ↓yab, ↓yac, ↓yad, ↓yae, ↓yaf, ↓yag, ↓yah, ↓yai, ↓ydb, ↓ydc, ↓ydd, ↓yde, ↓ydf, ↓ydg, ↓yao, ↓yap, ↓ydh, ↓ydi, ↓ydj, ↓ydk, ↓ydl, ↓ydm, ↓ydn, ↓ydo, ↓ydp, ↓yax, yay, yaz, yba, ybb, ybc, ybd, ybe, ybf, ybg, ybh, ybi, ybj, ybk, ybl, ybm, ybn, ybo, ybp, ybq, ybr, ybs, ybt, ybu, ybv, ares, tup, ybw, ybx, yby, argsE, dval, aop, ev, evs, evo, evp, fillL, addrOf, intOf?, ybz, yca, ycb, ycc, ycd, yce, ycf, zah, zag, reduceIte, Nat.reduceEqDiff, ycg, ych, yci, ycj, yck, ycl, ycm, ycn, yco, ycp, ycq, ycr, zap, zao, reduceCtorEq, zbb, zbc, zba, zaz, Nat.reduceAdd, Nat.reduceMul, zaq, zar, eqPtr, zae, zaf, zab, zaa, zac, zad, hload, hstore, zal, zam, Nat.reduceAdd, Nat.reduceLeDiff, zbb, zas, zat, one, zau, zaw, zav, splice, zaj, zak, zab, zaa, ycs, yct, ycu, ycv, ycw, ycx, ycy, ycz, zan, zai, zax, zay, and_self, true_and, and_true, lenV, yda, Nat.le_refl, if_true, ydq, ydr, yds, ne_eq, not_true_eq_false, not_false_eq_true, ← decide_not, Decidable.not_not, ydt, ydu, ydz, ydv, ydw, List.drop_zero, eq_self, Bool.false_eq_true, List.getElem?_toArray, yea, yeb, List.nil_append, List.cons_append, Bool.false_and, Int.reduceEq, Int.reduceLT, Int.reduceLE, Int.reduceNe, zbc, zbb, yec, yed, yee, yef, ydx, ydy, awake_any, happ1, h1, h2, h3, yem, ha3, hb3, hc3, hab, hba, hbc, haa, hac, hva, hvb, take12, list12, Same1_fr, hs]
            · have hs := eq_false hs0
              simp only [F106, ↓yaa, ↓yab, ↓yac, ↓yad, ↓yae, ↓yaf, ↓yag, ↓yah, ↓yai, ↓ydb, ↓ydc, ↓ydd, ↓yde, ↓ydf, ↓ydg, ↓yao, ↓yap, ↓ydh, ↓ydi, ↓ydj, ↓ydk, ↓ydl, ↓ydm, ↓ydn, ↓ydo, ↓ydp, ↓yax, yay, yaz, yba, ybb, ybc, ybd, ybe, ybf, ybg, ybh, ybi, ybj, ybk, ybl, ybm, ybn, ybo, ybp, ybq, ybr, ybs, ybt, ybu, ybv, ares, tup, ybw, ybx, yby, argsE, dval, aop, ev, evs, evo, evp, fillL, addrOf, intOf?, ybz, yca, ycb, ycc, ycd, yce, ycf, zah, zag, reduceIte, Nat.reduceEqDiff, ycg, ych, yci, ycj, yck, ycl, ycm, ycn, yco, ycp, ycq, ycr, zap, zao, reduceCtorEq, zbb, zbc, zba, zaz, Nat.reduceAdd, Nat.reduceMul, zaq, zar, eqPtr, zae, zaf, zab, zaa, zac, zad, hload, hstore, zal, zam, Nat.reduceAdd, Nat.reduceLeDiff, zbb, zas, zat, one, zau, zaw, zav, splice, zaj, zak, zab, zaa, ycs, yct, ycu, ycv, ycw, ycx, ycy, ycz, zan, zai, zax, zay, and_self, true_and, and_true, lenV, yda, Nat.le_refl, if_true, ydq, ydr, yds, ne_eq, not_true_eq_false, not_false_eq_true, ← decide_not, Decidable.not_not, ydt, ydu, ydz, ydv, ydw, List.drop_zero, eq_self, Bool.false_eq_true, List.getElem?_toArray, yea, yeb, List.nil_append, List.cons_append, Bool.false_and, Int.reduceEq, Int.reduceLT, Int.reduceLE, Int.reduceNe, zbc, zbb, yec, yed, yee, yef, ydx, ydy, awake_any, happ1, h1, h2, h3, yem, ha3, hb3, hc3, hab, hba, hbc, haa, hac, hva, hvb, take12, list12, Same1_fr, hs]
              try rfl
        · simp only [xab, zbc] at hab
          by_cases va : a.Bcn
          · by_cases vb : b.Bcn
            · simp only [va, vb, zbb] at hva hvb
              by_cases hs0 : a.source = b.source
              · have hs := eq_true hs0
                simp only [F106, ↓yaa, ↓yab, ↓yac, ↓yad, ↓yae, ↓yaf, ↓yag, ↓yah, ↓yai, ↓ydb, ↓ydc, ↓ydd, ↓yde, ↓ydf, ↓ydg, ↓yao, ↓yap, ↓ydh, ↓ydi, ↓ydj, ↓ydk, ↓ydl, ↓ydm, ↓ydn, ↓ydo, ↓ydp, ↓yax, yay, yaz, yba, ybb, ybc, ybd, ybe, ybf, ybg, ybh, ybi, ybj, ybk, ybl, ybm, ybn, ybo, ybp, ybq, ybr, ybs, ybt, ybu, ybv, ares, tup, ybw, ybx, yby, argsE, dval, aop, ev, evs, evo, evp, fillL, addrOf, intOf?, ybz, yca, ycb, ycc, ycd, yce, ycf, zah, zag, reduceIte, Nat.reduceEqDiff, ycg, ych, yci, ycj, yck, ycl, ycm, ycn, yco, ycp, ycq, ycr, zap, zao, reduceCtorEq, zbb, zbc, zba, zaz, Nat.reduceAdd, Nat.reduceMul, zaq, zar, eqPtr, zae, zaf, zab, zaa, zac, zad, hload, hstore, zal, zam, Nat.reduceAdd, Nat.reduceLeDiff, zbb, zas, zat, one, zau, zaw, zav, splice, zaj, zak, zab, zaa, ycs, yct, ycu, ycv, ycw, ycx, ycy, ycz, zan, zai, zax, zay, and_self, true_and, and_true, lenV, yda, Nat.le_refl, if_true, ydq, ydr, yds, ne_eq, not_true_eq_false, not_false_eq_true, ← decide_not, Decidable.not_not, ydt, ydu, ydz, ydv, ydw, List.drop_zero, eq_self, Bool.false_eq_true, List.getElem?_toArray, yea, yeb, List.nil_append, List.cons_append, Bool.false_and, Int.reduceEq, Int.reduceLT, Int.reduceLE, Int.reduceNe, zbc, zbb, yec, yed, yee, yef, ydx, ydy, awake_any, happ1, h1, h2, h3, yem, ha3, hb3, hc3, hab, hba, hbc, haa, hac, hva, hvb, take12, list12, Same1_fr, hs]
              · have hs := eq_false hs0
                have xba := better_total va vb hs0 xab
                simp only [xba, zbb] at hba
                simp only [F106, ↓yaa, ↓yab, ↓yac, ↓yad, ↓yae, ↓yaf, ↓yag, ↓yah, ↓yai, ↓ydb, ↓ydc, ↓ydd, ↓yde, ↓ydf, ↓ydg, ↓yao, ↓yap, ↓ydh, ↓ydi, ↓ydj, ↓ydk, ↓ydl, ↓ydm, ↓ydn, ↓ydo, ↓ydp, ↓yax, yay, yaz, yba, ybb, ybc, ybd, ybe, ybf, ybg, ybh, ybi, ybj, ybk, ybl, ybm, ybn, ybo, ybp, ybq, ybr, ybs, ybt, ybu, ybv, ares, tup, ybw, ybx, yby, argsE, dval, aop, ev, evs, evo, evp, fillL, addrOf, intOf?, ybz, yca, ycb, ycc, ycd, yce, ycf, zah, zag, reduceIte, Nat.reduceEqDiff, ycg, ych, yci, ycj, yck, ycl, ycm, ycn, yco, ycp, ycq, ycr, zap, zao, reduceCtorEq, zbb, zbc, zba, zaz, Nat.reduceAdd, Nat.reduceMul, zaq, zar, eqPtr, zae, zaf, zab, zaa, zac, zad, hload, hstore, zal, zam, Nat.reduceAdd, Nat.reduceLeDiff, zbb, zas, zat, one, zau, zaw, zav, splice, zaj, zak, zab, zaa, ycs, yct, ycu, ycv, ycw, ycx, ycy, ycz, zan, zai, zax, zay, and_self, true_and, and_true, lenV, yda, Nat.le_refl, if_true, ydq, ydr, yds, ne_eq, not_true_eq_false, not_false_eq_true, ← decide_not, Decidable.not_not, ydt, ydu, ydz, ydv, ydw, List.drop_zero, eq_self, Bool.false_eq_true, List.getElem?_toArray, yea, yeb, List.nil_append, List.cons_append, Bool.false_and, Int.reduceEq, Int.reduceLT, Int.reduceLE, Int.reduceNe, zbc, zbb, yec, yed, yee, yef, ydx, ydy, awake_any, happ1, h1, h2, h3, yem, ha3, hb3, hc3, hab, hba, hbc, haa, hac, hva, hvb, take12, list12, Same1_fr, hs]
                try rfl
            · simp only [va, vb, zbb, zbc] at hva hvb
              simp only [F106, ↓yaa, ↓yab, ↓yac, ↓yad, ↓yae, ↓yaf, ↓yag, ↓yah, ↓yai, ↓ydb, ↓ydc, ↓ydd, ↓yde, ↓ydf, ↓ydg, ↓yao, ↓yap, ↓ydh, ↓ydi, ↓ydj, ↓ydk, ↓ydl, ↓ydm, ↓ydn, ↓ydo, ↓ydp, ↓yax, yay, yaz, yba, ybb, ybc, ybd, ybe, ybf, ybg, ybh, ybi, ybj, ybk, ybl, ybm, ybn, ybo, ybp, ybq, ybr, ybs, ybt, ybu, ybv, ares, tup, ybw, ybx, yby, argsE, dval, aop, ev, evs, evo, evp, fillL, addrOf, intOf?, ybz, yca, ycb, ycc, ycd, yce, ycf, zah, zag, reduceIte, Nat.reduceEqDiff, ycg, ych, yci, ycj, yck, ycl, ycm, ycn, yco, ycp, ycq, ycr, zap, zao, reduceCtorEq, zbb, zbc, zba, zaz, Nat.reduceAdd, Nat.reduceMul, zaq, zar, eqPtr, zae, zaf, zab, zaa, zac, zad, hload, hstore, zal, zam, Nat.reduceAdd, Nat.reduceLeDiff, zbb, zas, zat, one, zau, zaw, zav, splice, zaj, zak, zab, zaa, ycs, yct, ycu, ycv, ycw, ycx, ycy, ycz, zan, zai, zax, zay, and_self, true_and, and_true, lenV, yda, Nat.le_refl, if_true, ydq, ydr, yds, ne_eq, not_true_eq_false, not_false_eq_true, ← decide_not, Decidable.not_not, ydt, ydu, ydz, ydv, ydw, List.drop_zero, eq_self, Bool.false_eq_true, List.getElem?_toArray, yea, yeb, List.nil_append, List.cons_append, Bool.false_and, Int.reduceEq, Int.reduceLT, Int.reduceLE, Int.reduceNe, zbc, zbb, yec, yed, yee, yef, ydx, ydy, awake_any, happ1, h1, h2, h3, yem, ha3, hb3, hc3, hab, hba, hbc, haa, hac, hva, hvb, take12, list12, Same1_fr, zao]
          · simp only [va, zbc] at hva
            simp only [F106, ↓yaa, ↓yab, ↓yac, ↓yad, ↓yae, ↓yaf, ↓yag, ↓yah, ↓yai, ↓ydb, ↓ydc, ↓ydd, ↓yde, ↓ydf, ↓ydg, ↓yao, ↓yap, ↓ydh, ↓ydi, ↓ydj, ↓ydk, ↓ydl, ↓ydm, ↓ydn, ↓ydo, ↓ydp, ↓yax, yay, yaz, yba, ybb, ybc, ybd, ybe, ybf, ybg, ybh, ybi, ybj, ybk, ybl, ybm, ybn, ybo, ybp, ybq, ybr, ybs, ybt, ybu, ybv, ares, tup, ybw, ybx, yby, argsE, dval, aop, ev, evs, evo, evp, fillL, addrOf, intOf?, ybz, yca, ycb, ycc, ycd, yce, ycf, zah, zag, reduceIte, Nat.reduceEqDiff, ycg, ych, yci, ycj, yck, ycl, ycm, ycn, yco, ycp, ycq, ycr, zap, zao, reduceCtorEq, zbb, zbc, zba, zaz, Nat.reduceAdd, Nat.reduceMul, zaq, zar, eqPtr, zae, zaf, zab, zaa, zac, zad, hload, hstore, zal, zam, Nat.reduceAdd, Nat.reduceLeDiff, zbb, zas, zat, one, zau, zaw, zav, splice, zaj, zak, zab, zaa, ycs, yct, ycu, ycv, ycw, ycx, ycy, ycz, zan, zai, zax, zay, and_self, true_and, and_true, lenV, yda, Nat.le_refl, if_true, ydq, ydr, yds, ne_eq, not_true_eq_false, not_false_eq_true, ← decide_not, Decidable.not_not, ydt, ydu, ydz, ydv, ydw, List.drop_zero, eq_self, Bool.false_eq_true, List.getElem?_toArray, yea, yeb, List.nil_append, List.cons_append, Bool.false_and, Int.reduceEq, Int.reduceLT, Int.reduceLE, Int.reduceNe, zbc, zbb, yec, yed, yee, yef, ydx, ydy, awake_any, happ1, h1, h2, h3, yem, ha3, hb3, hc3, hab, hba, hbc, haa, hac, hva, hvb, take12, list12, Same1_fr, zao]

end Go.Proofs.Ytejcabdejoameaa.AI

/- BeaconOrder holds, whatever the input. -/
set_option linter.unusedVariables false
namespace Go.Proofs.Ytejcabdejoameaa
open Go.ChangeShapes Go.WideShapes Go.ChangeAt Go.RowKit

set_option maxRecDepth 100000 in
theorem beaconOrder_lifted (os : Os) (started : os.Started) (H : Type) (enc : TypeId × Value → H) :
    ReturnsInHanded {} Try.checked os 8 .any (Rows.beaconOrderSpec.pre6 enc Try.prog Try.f8 Rows.beaconOrderRow.domain false) (Rows.beaconOrderSpec.post enc Try.prog Try.f8 false true false false) := by
  refine returnsInHanded_of_change (C := Try.checked) AI.own started (by kernel_rfl) Try.func8
    (ChangeSpec.witness6 (enc := enc) (C := Try.checked) false ⟨#[], #[.agg #[.int .i64 0, .int .i64 0, .int .i64 0, .int .i64 0, .int .i64 0, .int .i64 0, .int .i64 0, .int .i64 0, .int .i64 0, .int .i64 0, .int .i64 0, .string ⟨#[]⟩], .agg #[.int .i64 0, .int .i64 0, .int .i64 0, .int .i64 0, .int .i64 0, .int .i64 0, .int .i64 0, .int .i64 0, .int .i64 0, .int .i64 0, .int .i64 0, .string ⟨#[]⟩], .agg #[.int .i64 0, .int .i64 0, .int .i64 0, .int .i64 0, .int .i64 0, .int .i64 0, .int .i64 0, .int .i64 0, .int .i64 0, .int .i64 0, .int .i64 0, .string ⟨#[]⟩]], []⟩ 8 (by kernel_rfl) (by kernel_rfl) (by kernel_rfl) (by kernel_rfl)) ?_
  intro W base args ds gs before hval0 hW hcnd _
  have hval : ∀ (j : Nat) t v, Try.f8.params[j]? = some t → args[j]? = some v → Value.okWide Try.prog W .any base t v := hval0
  have hW' := hW
  obtain ⟨p, q, hA0, hV, rfl, hfz, hnd⟩ := hW
  have hA : DataW.TrodAll enc Try.prog W 0 (fun _ => true) true Try.f8.params.toList args.toList ds p := hA0
  rw [Try.params8] at hA hval
  obtain ⟨args⟩ := args
  have hA : DataW.TrodAll enc Try.prog W 0 (fun _ => true) true _ args ds p := hA
  obtain ⟨v0, args0, d0, ds0, p0, q0, rfl, rfl, rfl, h0, t0⟩ := trodAll_cons hA
  obtain ⟨v1, args1, d1, ds1, p1, q1, rfl, rfl, rfl, h1, t1⟩ := trodAll_cons t0
  obtain ⟨v2, args2, d2, ds2, p2, q2, rfl, rfl, rfl, h2, t2⟩ := trodAll_cons t1
  obtain ⟨rfl, rfl, rfl⟩ := trodAll_nil t2
  obtain ⟨rfl, rfl⟩ := trodVars_none hV
  obtain ⟨cs0, rfl, hl0, hc0⟩ := AI.arg_agg Try.underlying54 (hval 0 54 v0 rfl rfl) h0 (d := 9) (ls := AI.frLeaves) (by kernel_rfl)
  obtain ⟨x0, rfl, ok0⟩ := AI.fr_open hl0 hc0
  obtain ⟨cs1, rfl, hl1, hc1⟩ := AI.arg_agg Try.underlying54 (hval 1 54 v1 rfl rfl) h1 (d := 9) (ls := AI.frLeaves) (by kernel_rfl)
  obtain ⟨x1, rfl, ok1⟩ := AI.fr_open hl1 hc1
  obtain ⟨cs2, rfl, hl2, hc2⟩ := AI.arg_agg Try.underlying54 (hval 2 54 v2 rfl rfl) h2 (d := 9) (ls := AI.frLeaves) (by kernel_rfl)
  obtain ⟨x2, rfl, ok2⟩ := AI.fr_open hl2 hc2
  clear hA0 hval0
  have hc := AI.law_calls (k := 106) (AI.border ok0 ok1 ok2) (AI.HR0 W) AI.ro0 (.cons (AI.fr_vr x0) (.cons (AI.fr_vr x1) (.cons (AI.fr_vr x2) .nil)))
  refine hc.mono fun e W' ⟨he, hb⟩ => ?_
  subst he
  exact ⟨_, rfl, AI.law_post AI.laidOut hW' rfl rfl (by rw [Try.params8]; intro t ht; simp at ht; rcases ht with rfl | rfl | rfl <;> exact ⟨by kernel_rfl, of_decide_eq_true (by kernel_rfl)⟩) hb
    (fun _ _ _ => trodAll_mk1 (shut_bool Try.underlying4 _)) (ok_one (by kernel_rfl) rfl (okWide_bool_mk Try.underlying4 _))⟩

theorem beaconOrder_holds : Rows.BeaconOrderSaid :=
  OpenClaim.holds_of_wide 8 Try.f8 rfl rfl rfl rfl rfl rfl rfl ⟨rfl, rfl, rfl, rfl, rfl⟩ rfl rfl rfl rfl rfl (by kernel_rfl) Try.func8 (by kernel_rfl)
    (of_decide_eq_true (by kernel_rfl)) (by unfold Func.isWrapper; first | (rw [if_pos (by decide +kernel)]; kernel_rfl) | (rw [if_neg (by decide +kernel)]; exact ⟨rfl, rfl⟩))
    (fun os started H enc _ => beaconOrder_lifted os started H enc)

end Go.Proofs.Ytejcabdejoameaa

