/- BeaconBack holds, whatever the input. -/
import Derived.Calls
import Derived.Orders
import Derived.RowKit3
import Derived.KernelRfl
import Derived.WalkKit
import Derived.Laws.IdiomStrings
import Derived.Laws.StructEq
import Derived.LoopN
import Derived.Test.YtejcabdejoameaaRows
import Derived.ProofKit
import Derived.OpenShut
import Derived.ChangeMaps5
import Derived.Test.YtejcabdejoameaaBb6
/- An offer that is written is read, and one that is read is written. -/
set_option linter.unusedSimpArgs false
set_option maxHeartbeats 1000000
namespace Go.Proofs.Ytejcabdejoameaa.AI
open Go

/-! Errors that do not come -/
theorem ok_unsigned {w : WS} {k n : Int} (h0 : w.err = 0) (hl : w.bs.length ≤ 1000) (h1 : 1 ≤ k ∧ k ≤ 63) (h2 : 0 ≤ n ∧ n < 2 ^ k.toNat) : (w.unsigned k n).err = 0 ∧ (w.unsigned k n).bs.length = w.bs.length + k.toNat := by
  obtain ⟨bs, e⟩ := w
  simp only at h0 hl
  subst h0
  unfold WS.unsigned
  rw [wfield_ok (by simpa using h1) (by simp only [decide_eq_true_eq]; exact ⟨h1, h2⟩) (by omega)]
  simp [bitsOf_length]
theorem ok_flag {w : WS} {b : Bool} (h0 : w.err = 0) (hl : w.bs.length ≤ 1000) : (w.flag b).err = 0 ∧ (w.flag b).bs.length = w.bs.length + 1 := by
  obtain ⟨bs, e⟩ := w
  simp only at h0 hl
  subst h0
  unfold WS.flag
  rw [wfield_ok rfl rfl (by omega)]
  simp [bitsOf_length]
theorem wd8 : wd 8 ≤ 4 := by
  have : blen 8 ≤ 4 := blen_le.2 (by decide)
  unfold wd; rw [if_neg (by omega), show (8 : Int).toNat = 8 from rfl]; omega
theorem ok_text {w : WS} {t : ByteArray} (h0 : w.err = 0) (hl : w.bs.length ≤ 1000) (ht : t.size ≤ 8) : (w.text 8 t).err = 0 ∧ (w.text 8 t).bs.length ≤ w.bs.length + 68 := by
  have hw := wd8
  unfold WS.text
  rw [if_neg (by simpa using h0), if_neg (by decide), if_neg (by omega)]
  refine ⟨h0, ?_⟩
  simp only [zai, bitsOf_length, textBits_length]
  omega
theorem chW_nil (w : WS) : chW w [] = w := rfl
theorem chW_snoc (w : WS) (l : List Int) (x : Int) : chW w (l ++ [x]) = (chW w l).unsigned 4 x := by simp [chW, List.foldl_append]
theorem snoc_ind {α : Type} {P : List α → Prop} (h0 : P []) (h1 : ∀ l x, P l → P (l ++ [x])) : ∀ l, P l := by
  intro l
  have : ∀ n (l : List α), l.length = n → P l := by
    intro n
    induction n with
    | zero => intro l h; rw [List.length_eq_zero_iff.1 h]; exact h0
    | succ n ih =>
      intro l h
      have hne : l ≠ [] := fun e => by rw [e] at h; simp at h
      rw [← List.dropLast_concat_getLast hne]
      exact h1 _ _ (ih _ (by rw [List.length_dropLast, h]; omega))
  exact this _ l rfl
theorem ok_chW {w : WS} (h0 : w.err = 0) (l : List Int) : w.bs.length + 4 * l.length ≤ 1000 → (∀ x ∈ l, 0 ≤ x ∧ x < 16) → (chW w l).err = 0 ∧ (chW w l).bs.length = w.bs.length + 4 * l.length := by
  induction l using snoc_ind with
  | h0 => intro _ _; exact ⟨h0, rfl⟩
  | h1 l x ih =>
    intro hl hx
    simp only [zai, zal, zam] at hl
    obtain ⟨a, b⟩ := ih (by omega) (fun y hy => hx y (List.mem_append_left _ hy))
    rw [chW_snoc]
    obtain ⟨c, d⟩ := ok_unsigned (k := 4) (n := x) a (by omega) ⟨by omega, by omega⟩ (by have := hx x (by simp); exact ⟨this.1, by simpa using this.2⟩)
    refine ⟨c, ?_⟩
    rw [d, b]
    simp only [zai, zal, zam, show (4 : Int).toNat = 4 from rfl]
    omega

/-- Numbers below n that are all different are n at most. -/
theorem few_below : ∀ (n : Nat) (l : List Int), (∀ x ∈ l, 0 ≤ x ∧ x < (n : Int)) → l.Nodup → l.length ≤ n := by
  intro n
  induction n with
  | zero =>
    intro l h _
    cases l with
    | nil => simp
    | cons x l => have := h x (by simp); omega
  | succ n ih =>
    intro l h hn
    have h1 := ih (l.erase (n : Int)) (fun x hx => by
      have hm := (hn.mem_erase_iff).1 hx
      have := h x hm.2
      exact ⟨this.1, by have := hm.1; omega⟩) (hn.erase _)
    have := List.length_erase (a := (n : Int)) (l := l)
    split at this <;> omega
theorem chans_nodup : ∀ (l : List Int), (∀ i x, l[i]? = some x → (0 ≤ x ∧ x < 16) ∧ x ∉ l.take i) → l.Nodup := by
  intro l
  induction l using snoc_ind with
  | h0 => intro _; exact List.nodup_nil
  | h1 l x ih =>
    intro h
    have h1 := ih (fun i y hy => by
      have hi : i < l.length := (List.getElem?_eq_some_iff.1 hy).1
      have := h i y (by rw [List.getElem?_append_left hi]; exact hy)
      rw [List.take_append_of_le_length (by omega)] at this
      exact this)
    have h2 := (h l.length x (by simp)).2
    rw [List.take_left'] at h2
    · rw [List.nodup_append]
      refine ⟨h1, by simp, ?_⟩
      intro a ha b hb
      simp only [List.mem_singleton] at hb
      subst hb
      intro e
      subst e
      exact h2 ha
    · rfl
theorem chans_len {l : List Int} (h : Chans l) : l.length ≤ 16 ∧ ∀ x ∈ l, 0 ≤ x ∧ x < 16 := by
  have hm : ∀ x ∈ l, 0 ≤ x ∧ x < 16 := fun x hx => by
    obtain ⟨i, hi, rfl⟩ := List.getElem_of_mem hx
    exact (h.2 i _ (List.getElem?_eq_getElem hi)).1
  exact ⟨few_below 16 l hm (chans_nodup l h.2), hm⟩

open Classical in
/-- An offer without an error is written without one. -/
theorem ws_ok {o : Off} (h : o.err = 0) : o.ws.err = 0 ∧ o.ws.bs.length ≤ 205 := by
  unfold Off.err at h
  split at h
  · omega
  rename_i h1
  split at h
  · omega
  rename_i h2
  split at h
  · omega
  rename_i h3
  unfold Off.ws
  obtain ⟨a1, b1⟩ := ok_unsigned (w := ⟨[], 0⟩) (k := 5) (n := o.root) rfl (by simp) (by omega) (by simp only [show (2 : Int) ^ (5 : Int).toNat = 32 by decide]; omega)
  simp only [zam, show (5 : Int).toNat = 5 from rfl] at b1
  obtain ⟨a2, b2⟩ := ok_flag (b := o.opn) a1 (by omega)
  obtain ⟨a3, b3⟩ := ok_text (t := o.run) a2 (by omega) (by omega)
  obtain ⟨a4, b4⟩ := ok_flag (b := decide (¬ o.next.Zero)) a3 (by omega)
  by_cases hz : o.next.Zero
  · rw [if_pos hz]; exact ⟨a4, by omega⟩
  · rw [if_neg hz]
    have hok : o.next.Ok := Classical.byContradiction fun q => h3 ⟨hz, q⟩
    obtain ⟨k1, k2, k3, k4, k5, k6⟩ := hok
    obtain ⟨c1, c2⟩ := chans_len k6
    have c0 := k6.1
    obtain ⟨a5, b5⟩ := ok_unsigned (k := 8) (n := o.next.ver) a4 (by omega) (by omega) (by simp only [show (2 : Int) ^ (8 : Int).toNat = 256 by decide]; omega)
    obtain ⟨a6, b6⟩ := ok_unsigned (k := 27) (n := o.next.first) a5 (by simp only [show (8 : Int).toNat = 8 from rfl] at b5; omega) (by omega) (by simp only [show (2 : Int) ^ (27 : Int).toNat = 134217728 by decide]; omega)
    simp only [show (8 : Int).toNat = 8 from rfl, show (27 : Int).toNat = 27 from rfl] at b5 b6
    obtain ⟨a7, b7⟩ := ok_unsigned (k := 27) (n := o.next.til) a6 (by omega) (by omega) (by simp only [show (2 : Int) ^ (27 : Int).toNat = 134217728 by decide]; omega)
    simp only [show (27 : Int).toNat = 27 from rfl] at b7
    obtain ⟨a8, b8⟩ := ok_unsigned (k := 4) (n := (o.next.ch.length : Int) - 1) a7 (by omega) (by omega) (by simp only [show (2 : Int) ^ (4 : Int).toNat = 16 by decide]; omega)
    simp only [show (4 : Int).toNat = 4 from rfl] at b8
    obtain ⟨a9, b9⟩ := ok_chW a8 o.next.ch (by omega) c2
    exact ⟨a9, by omega⟩

/-! What is read where it was written -/
def Pre (w : WS) (s : ByteArray) : Prop := w.err = 0 ∧ ∃ tail, IsStr (w.bs ++ tail) s
theorem pre_step {w : WS} {f : Fld} {s : ByteArray} (h : Pre (w.write f) s) : Pre w s := by
  obtain ⟨h0, tail, ht⟩ := h
  obtain ⟨e, x, hx⟩ := write_ext h0
  exact ⟨e, x ++ tail, by rw [← List.append_assoc, ← hx]; exact ht⟩
theorem pre_unsigned {w : WS} {s : ByteArray} {k n : Int} (h : Pre (w.unsigned k n) s) : Pre w s ∧ (⟨s, w.bs.length, 0⟩ : RS).unsigned k = (n, ⟨s, (w.unsigned k n).bs.length, 0⟩) := by
  have e : w.write ⟨0, k, n, ⟨#[]⟩⟩ = w.unsigned k n := by simp [WS.write]
  rw [← e] at h
  have hp := pre_step h
  obtain ⟨h0, tail, ht⟩ := h
  have hr := write_read h0 ht ⟨by simp, by simp⟩
  rw [e] at hr
  simp only [RS.read, if_true, Prod.mk.injEq, Fld.mk.injEq, show ¬ ((0 : Int) = 2) by decide, show ¬ ((0 : Int) = 3) by decide, if_false, true_and, and_true] at hr
  exact ⟨hp, Prod.ext hr.1 hr.2⟩
theorem pre_flag {w : WS} {s : ByteArray} {b : Bool} (h : Pre (w.flag b) s) : Pre w s ∧ (⟨s, w.bs.length, 0⟩ : RS).flag = (b, ⟨s, (w.flag b).bs.length, 0⟩) := by
  have e : w.write ⟨2, 0, if b then 1 else 0, ⟨#[]⟩⟩ = w.flag b := by cases b <;> simp [WS.write]
  rw [← e] at h
  have hp := pre_step h
  obtain ⟨h0, tail, ht⟩ := h
  have hr := write_read h0 ht ⟨by simp, by simp⟩
  rw [e] at hr
  refine ⟨hp, Prod.ext ?_ ?_⟩
  · have := congrArg (fun x : Fld × RS => x.1.n) hr
    revert this
    cases hf : (⟨s, w.bs.length, 0⟩ : RS).flag.1 <;> cases b <;> simp [RS.read, hf]
  · have := congrArg (fun x : Fld × RS => x.2) hr
    simpa [RS.read] using this
theorem pre_text {w : WS} {s t : ByteArray} {k : Int} (h : Pre (w.text k t) s) : Pre w s ∧ (⟨s, w.bs.length, 0⟩ : RS).text k = (t, ⟨s, (w.text k t).bs.length, 0⟩) := by
  have e : w.write ⟨3, k, 0, t⟩ = w.text k t := by simp [WS.write]
  rw [← e] at h
  have hp := pre_step h
  obtain ⟨h0, tail, ht⟩ := h
  have hr := write_read h0 ht ⟨by simp, by simp⟩
  rw [e] at hr
  refine ⟨hp, Prod.ext ?_ ?_⟩
  · have := congrArg (fun x : Fld × RS => x.1.s) hr
    simpa [RS.read] using this
  · have := congrArg (fun x : Fld × RS => x.2) hr
    simpa [RS.read] using this
theorem pre_chW {s : ByteArray} {w : WS} (l : List Int) : Pre (chW w l) s → Pre w s ∧ rdN ⟨s, w.bs.length, 0⟩ l.length = (l, ⟨s, (chW w l).bs.length, 0⟩) := by
  induction l using snoc_ind with
  | h0 => intro h; exact ⟨h, rfl⟩
  | h1 l x ih =>
    intro h
    rw [chW_snoc] at h ⊢
    obtain ⟨h1, h2⟩ := pre_unsigned h
    obtain ⟨h3, h4⟩ := ih h1
    refine ⟨h3, ?_⟩
    rw [zai, zal, zam]
    simp only [zaz, rdN, h4, h2]

theorem isStr_close {bs : List Bool} {s : ByteArray} (h : IsStr bs s) : (⟨s, bs.length, 0⟩ : RS).close = 0 := by
  have hs := h.size
  have hv : valOf s bs.length (8 * s.size - bs.length) = 0 := by
    have := valOf_read h (a := bs.length) (w := 8 * s.size - bs.length) (n := 0) (by omega) (fun i hi => by
      rw [List.getD_eq_getElem?_getD, List.getElem?_eq_none (by omega)]; simp)
    simpa using this
  simp only [RS.close, RS.left, if_true]
  rw [if_neg (by simp), if_neg (by omega), if_neg]
  rw [show (8 * (s.size : Int) - (bs.length : Int)).toNat = 8 * s.size - bs.length by omega, hv]
  simp

theorem zero_eq {l : HopL} (h : l.Zero) : l = ⟨0, 0, 0, []⟩ := by
  obtain ⟨a, b, c, d⟩ := l
  obtain ⟨h1, h2, h3, h4⟩ := h
  simp only at h1 h2 h3 h4
  subst h1 h2 h3
  have : d = [] := List.length_eq_zero_iff.1 (by omega)
  rw [this]

open Classical in
/-- An offer that is written is read. -/
theorem enc_dec {o : Off} (h : o.err = 0) {s : ByteArray} (hs : IsStr o.ws.bs s) : dec s = (o, 0) ∧ s.size ≤ 28 := by
  obtain ⟨h1, h2⟩ := ws_ok h
  have hsz := hs.size
  have hn : newR s = ⟨s, 0, 0⟩ := by unfold newR; rw [if_neg (by omega)]
  have hp : Pre o.ws s := ⟨h1, [], by simpa using hs⟩
  have hoff : (newR s).off = (o, decide (¬ o.next.Zero), ⟨s, o.ws.bs.length, 0⟩) := by
    rw [hn]
    unfold Off.ws at hp ⊢
    by_cases hz : o.next.Zero
    · rw [if_pos hz] at hp ⊢
      obtain ⟨p3, q4⟩ := pre_flag hp
      obtain ⟨p2, q3⟩ := pre_text p3
      obtain ⟨p1, q2⟩ := pre_flag p2
      obtain ⟨p0, q1⟩ := pre_unsigned p1
      simp only [zam] at q1
      simp only [RS.off, q1, q2, q3, q4, hz, not_true_eq_false, zbc, Bool.false_eq_true, if_false]
      obtain ⟨r, b, t, n⟩ := o
      simp only at hz ⊢
      rw [zero_eq hz]
    · have hb : decide (¬ o.next.Zero) = true := decide_eq_true hz
      rw [if_neg hz, hb] at hp ⊢
      obtain ⟨p8, q9⟩ := pre_chW _ hp
      obtain ⟨p7, q8⟩ := pre_unsigned p8
      obtain ⟨p6, q7⟩ := pre_unsigned p7
      obtain ⟨p5, q6⟩ := pre_unsigned p6
      obtain ⟨p4, q5⟩ := pre_unsigned p5
      obtain ⟨p3, q4⟩ := pre_flag p4
      obtain ⟨p2, q3⟩ := pre_text p3
      obtain ⟨p1, q2⟩ := pre_flag p2
      obtain ⟨p0, q1⟩ := pre_unsigned p1
      simp only [zam] at q1
      have hl : ((o.next.ch.length : Int) - 1 + 1).toNat = o.next.ch.length := by omega
      simp only [RS.off, q1, q2, q3, q4, if_true, RS.hop, q5, q6, q7, q8, hl, q9]
  refine ⟨?_, by omega⟩
  unfold dec
  rw [hoff]
  simp only
  have hc : (⟨s, o.ws.bs.length, 0⟩ : RS).close = 0 := isStr_close hs
  rw [if_neg]
  rintro (⟨a, b⟩ | a | a)
  · simp [b] at a
  · exact a hc
  · exact a h

/-! What is written where it was read -/
theorem fld_s {r : RS} {right : Bool} {w : Int} : (r.field right w).2.s = r.s := by
  unfold RS.field; split
  · rfl
  · split
    · rfl
    · split <;> rfl
structure Rd (s : ByteArray) (r : RS) (w : WS) : Prop where
  ok : r.Ok
  sEq : r.s = s
  inv : r.err = 0 → w = ⟨seg s 0 r.at_, 0⟩
variable {s : ByteArray} {r : RS} {w : WS}
theorem Rd.unsigned (h : Rd s r w) (hs : s.size ≤ 300) (k : Int) : Rd s (r.unsigned k).2 (w.unsigned k (r.unsigned k).1) := by
  refine ⟨unsigned_ok h.ok k, fld_s.trans h.sEq, fun he => ?_⟩
  have := read_write (f := ⟨0, k, 0, ⟨#[]⟩⟩) (by rw [h.sEq]; exact hs) h.ok (by simpa [RS.read] using he)
  simp only [RS.read, WS.write, if_true, h.sEq] at this
  rw [h.inv this.1]; exact this.2.2
theorem Rd.flag (h : Rd s r w) (hs : s.size ≤ 300) : Rd s r.flag.2 (w.flag r.flag.1) := by
  refine ⟨flag_ok h.ok, fld_s.trans h.sEq, fun he => ?_⟩
  have := read_write (f := ⟨2, 0, 0, ⟨#[]⟩⟩) (by rw [h.sEq]; exact hs) h.ok (by simpa [RS.read] using he)
  have e : (⟨seg s 0 r.at_, 0⟩ : WS).flag r.flag.1 = ⟨seg s 0 r.flag.2.at_, 0⟩ := by
    have := this.2.2
    rw [h.sEq] at this
    revert this
    cases hf : r.flag.1 <;> simp [RS.read, WS.write, hf]
  rw [h.inv this.1]; exact e
theorem txt_s {k : Int} : (r.text k).2.s = r.s := by
  unfold RS.text
  simp only
  split
  · exact fld_s
  · split
    · exact fld_s
    · split
      · exact fld_s
      · exact fld_s
theorem Rd.text (h : Rd s r w) (hs : s.size ≤ 300) (k : Int) : Rd s (r.text k).2 (w.text k (r.text k).1) := by
  refine ⟨text_ok h.ok k, txt_s.trans h.sEq, fun he => ?_⟩
  have := read_write (f := ⟨3, k, 0, ⟨#[]⟩⟩) (by rw [h.sEq]; exact hs) h.ok (by simpa [RS.read] using he)
  have e : (⟨seg s 0 r.at_, 0⟩ : WS).text k (r.text k).1 = ⟨seg s 0 (r.text k).2.at_, 0⟩ := by
    have := this.2.2
    rw [h.sEq] at this
    simpa [RS.read, WS.write] using this
  rw [h.inv this.1]; exact e
theorem Rd.rdN (h : Rd s r w) (hs : s.size ≤ 300) : ∀ n, Rd s (rdN r n).2 (chW w (rdN r n).1) := by
  intro n
  induction n with
  | zero => exact h
  | succ n ih =>
    simp only [AI.rdN, chW_snoc]
    exact ih.unsigned hs 4

open Classical in
theorem rd_off {s : ByteArray} (hs : s.size ≤ 300) (hz : ¬ ((⟨s, 0, 0⟩ : RS).off.2.1 = true ∧ (⟨s, 0, 0⟩ : RS).off.1.next.Zero)) : Rd s (⟨s, 0, 0⟩ : RS).off.2.2 (⟨s, 0, 0⟩ : RS).off.1.ws := by
  have h0 : Rd s ⟨s, 0, 0⟩ ⟨[], 0⟩ := ⟨⟨Nat.zero_le _, by simp only; omega⟩, rfl, fun _ => rfl⟩
  have h4 := (((h0.unsigned hs 5).flag hs).text hs 8).flag hs
  unfold RS.off at hz ⊢
  simp only at hz ⊢
  by_cases hd : (((((⟨s, 0, 0⟩ : RS).unsigned 5).2.flag).2.text 8).2.flag).1 = true
  · rw [if_pos hd] at hz ⊢
    simp only [true_and] at hz ⊢
    have h9 := ((((h4.unsigned hs 8).unsigned hs 27).unsigned hs 27).unsigned hs 4).rdN hs ((((((((((⟨s, 0, 0⟩ : RS).unsigned 5).2.flag).2.text 8).2.flag).2.unsigned 8).2.unsigned 27).2.unsigned 27).2.unsigned 4).1 + 1).toNat
    have hpos := (unsigned_lt ((((((((⟨s, 0, 0⟩ : RS).unsigned 5).2.flag).2.text 8).2.flag).2.unsigned 8).2.unsigned 27).2.unsigned 27).2 4 (by omega)).1
    unfold Off.ws
    rw [if_neg hz]
    simp only [hz, not_false_eq_true, zbb]
    simp only [hd] at h9
    generalize hG : ((((⟨s, 0, 0⟩ : RS).unsigned 5).2.flag).2.text 8).2.flag.2 = G at *
    simp only [RS.hop, rdN_length]
    have e : (((((G.unsigned 8).2.unsigned 27).2.unsigned 27).2.unsigned 4).1 + 1).toNat = ((((((G.unsigned 8).2.unsigned 27).2.unsigned 27).2.unsigned 4).1 + 1).toNat : Int) := rfl
    have e2 : (((((((G.unsigned 8).2.unsigned 27).2.unsigned 27).2.unsigned 4).1 + 1).toNat : Nat) : Int) - 1 = ((((G.unsigned 8).2.unsigned 27).2.unsigned 27).2.unsigned 4).1 := by omega
    rw [e2]
    exact h9
  · rw [if_neg hd] at hz ⊢
    simp only at hz ⊢
    have hz0 : (⟨0, 0, 0, []⟩ : HopL).Zero := ⟨rfl, rfl, rfl, rfl⟩
    unfold Off.ws
    rw [if_pos hz0]
    simp only [hz0, not_true_eq_false, zbc]
    rw [Bool.not_eq_true] at hd
    rw [hd] at h4
    exact h4

open Classical in
/-- An offer that is read is written. -/
theorem dec_enc {s : ByteArray} (hsz : s.size ≤ 100) (h : (dec s).2 = 0) : (dec s).1.enc = (s, 0) := by
  have hn : newR s = ⟨s, 0, 0⟩ := by unfold newR; rw [if_neg (by omega)]
  unfold dec at h ⊢
  rw [hn] at h ⊢
  split at h
  · simp at h
  rename_i hc
  rw [if_neg hc]
  have hc1 : ¬ ((⟨s, 0, 0⟩ : RS).off.2.1 = true ∧ (⟨s, 0, 0⟩ : RS).off.1.next.Zero) := fun q => hc (.inl q)
  have hc2 : (⟨s, 0, 0⟩ : RS).off.2.2.close = 0 := Classical.byContradiction fun q => hc (.inr (.inl q))
  have hc3 : (⟨s, 0, 0⟩ : RS).off.1.err = 0 := Classical.byContradiction fun q => hc (.inr (.inr q))
  clear hc h
  have hr := rd_off (by omega) hc1
  simp only
  generalize (⟨s, 0, 0⟩ : RS).off = P at *
  obtain ⟨o, b, r⟩ := P
  simp only at *
  have he : r.err = 0 := by
    refine Classical.byContradiction fun he => ?_
    simp only [RS.close, he, ne_eq, not_false_eq_true, if_true] at hc2
  have hw := hr.inv he
  have hat := hr.ok.at_le
  rw [hr.sEq] at hat
  simp only [RS.close, he, ne_eq, not_true_eq_false, if_false, RS.left, if_true, hr.sEq] at hc2
  have h8 : ¬ (8 : Int) ≤ 8 * (s.size : Int) - (r.at_ : Int) := fun q => by rw [if_pos q] at hc2; omega
  rw [if_neg h8] at hc2
  have hv : valOf s r.at_ (8 * (s.size : Int) - (r.at_ : Int)).toNat = 0 := by
    refine Classical.byContradiction fun hv => ?_
    rw [if_pos hv] at hc2; omega
  rw [show (8 * (s.size : Int) - (r.at_ : Int)).toNat = 8 * s.size - r.at_ by omega] at hv
  have hst := isStr_seg hat (by omega) hv
  unfold Off.enc
  rw [if_neg (by simpa using hc3), hw]
  simp only [WS.out, if_true]
  rw [← hst.eq]

open Classical in
theorem enc_err (o : Off) : o.enc.2 = o.err ∧ (o.enc.2 ≠ 0 → o.enc.1 = ⟨#[]⟩) := by
  unfold Off.enc
  by_cases h : o.err = 0
  · rw [if_neg (by simpa using h)]
    simp only [(ws_ok h).1, h]
    simp
  · rw [if_pos h]
    simp
theorem str_ex : ∀ bs : List Bool, ∃ s, IsStr bs s := by
  have key : ∀ bs : List Bool, ∃ d, Bits d bs ∧ d.length = (bs.length + 7) / 8 := by
    intro bs
    induction bs using snoc_ind with
    | h0 => exact ⟨[], Bits.nil, rfl⟩
    | h1 bs b ih =>
      obtain ⟨d, h1, h2⟩ := ih
      by_cases h8 : bs.length % 8 = 0
      · have h3 := h1.zero (by omega)
        refine ⟨_, h3.put b (j := d.length) (x := 0) (by omega) (by simp), ?_⟩
        simp only [zan, zai, zal, zam]
        omega
      · have hj : bs.length / 8 < d.length := by omega
        refine ⟨_, h1.put b rfl (List.getElem?_eq_getElem hj), ?_⟩
        simp only [zan, zai, zal, zam]
        omega
  intro bs
  obtain ⟨d, h1, h2⟩ := key bs
  exact ⟨strOf d, d, h1, h2, rfl⟩
theorem bstr_is (bs : List Bool) : IsStr bs (bstr bs) := by
  obtain ⟨s, h⟩ := str_ex bs
  rw [← h.eq]; exact h
open Classical in
/-- An offer that is written is read. -/
theorem enc_read {o : Off} (h : o.err = 0) : dec o.enc.1 = (o, 0) ∧ o.enc.1.size ≤ 28 := by
  have e : o.enc.1 = bstr o.ws.bs := by
    unfold Off.enc
    rw [if_neg (by simpa using h)]
    simp only [WS.out, (ws_ok h).1, if_true]
  rw [e]
  exact enc_dec h (bstr_is _)

end Go.Proofs.Ytejcabdejoameaa.AI

/- BeaconBack in the interpreter. -/
set_option linter.unusedSimpArgs false
set_option maxHeartbeats 8000000
namespace Go.Proofs.Ytejcabdejoameaa.AI
open Go

theorem ta6 (a b c d e f : Value) : List.take 6 [a, b, c, d, e, f] = [a, b, c, d, e, f] := rfl
theorem li6 (a b c d e f : Value) : [a, b, c, d, e, f].toArray = #[a, b, c, d, e, f] := rfl
theorem u64k {r : RS} {w : Int} (h : w ≤ 63) : Is64 (r.unsigned w).1 := by
  obtain ⟨h1, h2⟩ := unsigned_lt r w h
  have := pow63 h
  exact ⟨by omega, by omega⟩
theorem rdN_u64 (r : RS) : ∀ n, ∀ x ∈ (rdN r n).1, Is64 x := by
  intro n; induction n with
  | zero => intro x hx; simp [rdN] at hx
  | succ n ih =>
    intro x hx
    simp only [rdN, List.mem_append, List.mem_singleton] at hx
    rcases hx with hx | rfl
    · exact ih x hx
    · exact u64k (by omega)
theorem z64 : Is64 0 := ⟨by omega, by omega⟩
theorem off_u64 (r : RS) : r.off.1.Ok64 := by
  unfold RS.off
  simp only
  split
  · exact ⟨u64k (by omega), u64k (by omega), u64k (by omega), u64k (by omega), fun x hx => rdN_u64 _ _ x hx⟩
  · exact ⟨u64k (by omega), z64, z64, z64, fun x hx => by simp at hx⟩
theorem dec_u64 (s : ByteArray) : (dec s).1.Ok64 := by
  unfold dec
  split
  · exact ⟨z64, z64, z64, z64, fun x hx => by simp [zeroOff] at hx⟩
  · exact off_u64 _

theorem bback {H : Heap} {o : Off} {a : Option Addr} {z : Nat} {s : ByteArray} {r : Rk} {slot : Int} (h : SI H a z o.next.ch) (hok : o.Ok64) (_ : NilOk a z o.next.ch.length) (_ : r.I64) (_ : Is64 slot) :
    Op1 (AC tbl 107 [o.v a z, .string s, r.v, .int .i64 slot] H) fun r _ => r = .bool true := by
  apply AC_wp (F := F107) rfl (by simp [F107]) (.inl rfl)
  have hov : o.v a z = .agg #[.int .i64 o.root, .bool o.opn, .string o.run, .int .i64 o.next.ver, .int .i64 o.next.first, .int .i64 o.next.til, .slice a o.next.ch.length z] := rfl
  have hovz : ∀ a z, o.v a z = .agg #[.int .i64 o.root, .bool o.opn, .string o.run, .int .i64 o.next.ver, .int .i64 o.next.first, .int .i64 o.next.til, .slice a o.next.ch.length z] := fun _ _ => rfl
  have hrv : r.v = .agg #[.int .i64 r.node, .int .i64 r.epoch, .int .i64 r.parent, .int .i64 r.heard, .int .i64 r.rank, .int .i64 r.least] := rfl
  have hfew := fun G => @f110 G a z o
  rw [hrv, hov]
  rw [hov] at hfew
  have heq : o.Eqv o := ⟨rfl, rfl, rfl, rfl, rfl, rfl, rfl⟩
  have hmk : o.enc.2 = 0 → mkB r 1 2 slot o = if 65535 ≤ r.rank then (zeroFr, 12) else if (⟨3, r.node, -1, 1, 2, 0, 0, 0, slot, r.rank, r.epoch, o.enc.1⟩ : Fr).Ok then ((⟨3, r.node, -1, 1, 2, 0, 0, 0, slot, r.rank, r.epoch, o.enc.1⟩ : Fr), 0) else (zeroFr, 1) := fun q => by
    unfold mkB; rw [if_neg (by simpa using q)]
  have go := @ydx H (some (⟨true, [.int .i64 o.root, .bool o.opn, .string o.run, .int .i64 o.next.ver, .int .i64 o.next.first, .int .i64 o.next.til, .slice a o.next.ch.length z]⟩ : Blk)) (some (⟨true, [.int .i64 r.node, .int .i64 r.epoch, .int .i64 r.parent, .int .i64 r.heard, .int .i64 r.rank, .int .i64 r.least]⟩ : Blk))
  have gr := @ydv H (some (⟨true, [.int .i64 o.root, .bool o.opn, .string o.run, .int .i64 o.next.ver, .int .i64 o.next.first, .int .i64 o.next.til, .slice a o.next.ch.length z]⟩ : Blk)) (some (⟨true, [.int .i64 r.node, .int .i64 r.epoch, .int .i64 r.parent, .int .i64 r.heard, .int .i64 r.rank, .int .i64 r.least]⟩ : Blk))
  have si := (h.push (some (⟨true, [.int .i64 o.root, .bool o.opn, .string o.run, .int .i64 o.next.ver, .int .i64 o.next.first, .int .i64 o.next.til, .slice a o.next.ch.length z]⟩ : Blk))).push (some (⟨true, [.int .i64 r.node, .int .i64 r.epoch, .int .i64 r.parent, .int .i64 r.heard, .int .i64 r.rank, .int .i64 r.least]⟩ : Blk))
  simp only [F107, ↓yaa, ↓yab, ↓yac, ↓yad, ↓yae, ↓yaf, ↓yag, ↓yah, ↓yai, ↓ydb, ↓ydc, ↓ydd, ↓yde, ↓ydf, ↓ydg, ↓yao, ↓yap, ↓ydh, ↓ydi, ↓ydj, ↓ydk, ↓ydl, ↓ydm, ↓ydn, ↓ydo, ↓ydp, ↓yax, yay, yaz, yba, ybb, ybc, ybd, ybe, ybf, ybg, ybh, ybi, ybj, ybk, ybl, ybm, ybn, ybo, ybp, ybq, ybr, ybs, ybt, ybu, ybv, ares, tup, ybw, ybx, yby, argsE, dval, aop, ev, evs, evo, evp, fillL, addrOf, intOf?, ybz, yca, ycb, ycc, ycd, yce, ycf, zah, zag, reduceIte, Nat.reduceEqDiff, ycg, ych, yci, ycj, yck, ycl, ycm, ycn, yco, ycp, ycq, ycr, zap, zao, reduceCtorEq, zbb, zbc, zba, zaz, Nat.reduceAdd, Nat.reduceMul, zaq, zar, eqPtr, zae, zaf, zab, zaa, zac, zad, hload, hstore, zal, zam, Nat.reduceAdd, Nat.reduceLeDiff, zbb, zas, zat, one, zau, zaw, zav, splice, zaj, zak, zab, zaa, ycs, yct, ycu, ycv, ycw, ycx, ycy, ycz, zan, zai, zax, zay, and_self, true_and, and_true, lenV, yda, Nat.le_refl, if_true, ydq, ydr, yds, ne_eq, not_true_eq_false, not_false_eq_true, ← decide_not, Decidable.not_not, ydt, ydu, ydz, ydv, ydw, List.drop_zero, eq_self, Bool.false_eq_true, List.getElem?_toArray, yea, yeb, List.nil_append, List.cons_append, Bool.false_and, Int.reduceEq, Int.reduceLT, Int.reduceLE, Int.reduceNe, zbc, zbb, yec, yed, yee, yef, ydx, ydy, awake_any]
  generalize H ++ [some (⟨true, [.int .i64 o.root, .bool o.opn, .string o.run, .int .i64 o.next.ver, .int .i64 o.next.first, .int .i64 o.next.til, .slice a o.next.ch.length z]⟩ : Blk)] ++ [some (⟨true, [.int .i64 r.node, .int .i64 r.epoch, .int .i64 r.parent, .int .i64 r.heard, .int .i64 r.rank, .int .i64 r.least]⟩ : Blk)] = G at *
  by_cases h1 : o.Few
  · have hl : o.next.ch.length < 1000000000 := by have := h1.2; omega
    have f0 : Frm [] G (G ++ [some (⟨true, [.int .i64 o.root, .bool o.opn, .string o.run, .int .i64 o.next.ver, .int .i64 o.next.first, .int .i64 o.next.til, .slice a o.next.ch.length z]⟩ : Blk)]) := (Frm.refl _ _).push _
    by_cases h2 : (100 : Int) < (s.size : Int)
    · simp only [↓yaa, ↓yab, ↓yac, ↓yad, ↓yae, ↓yaf, ↓yag, ↓yah, ↓yai, ↓ydb, ↓ydc, ↓ydd, ↓yde, ↓ydf, ↓ydg, ↓yao, ↓yap, ↓ydh, ↓ydi, ↓ydj, ↓ydk, ↓ydl, ↓ydm, ↓ydn, ↓ydo, ↓ydp, ↓yax, yay, yaz, yba, ybb, ybc, ybd, ybe, ybf, ybg, ybh, ybi, ybj, ybk, ybl, ybm, ybn, ybo, ybp, ybq, ybr, ybs, ybt, ybu, ybv, ares, tup, ybw, ybx, yby, argsE, dval, aop, ev, evs, evo, evp, fillL, addrOf, intOf?, ybz, yca, ycb, ycc, ycd, yce, ycf, zah, zag, reduceIte, Nat.reduceEqDiff, ycg, ych, yci, ycj, yck, ycl, ycm, ycn, yco, ycp, ycq, ycr, zap, zao, reduceCtorEq, zbb, zbc, zba, zaz, Nat.reduceAdd, Nat.reduceMul, zaq, zar, eqPtr, zae, zaf, zab, zaa, zac, zad, hload, hstore, zal, zam, Nat.reduceAdd, Nat.reduceLeDiff, zbb, zas, zat, one, zau, zaw, zav, splice, zaj, zak, zab, zaa, ycs, yct, ycu, ycv, ycw, ycx, ycy, ycz, zan, zai, zax, zay, and_self, true_and, and_true, lenV, yda, Nat.le_refl, if_true, ydq, ydr, yds, ne_eq, not_true_eq_false, not_false_eq_true, ← decide_not, Decidable.not_not, ydt, ydu, ydz, ydv, ydw, List.drop_zero, eq_self, Bool.false_eq_true, List.getElem?_toArray, yea, yeb, List.nil_append, List.cons_append, Bool.false_and, Int.reduceEq, Int.reduceLT, Int.reduceLE, Int.reduceNe, zbc, zbb, yec, yed, yee, yef, ydx, ydy, go, t7, list7, hfew, h1, h2]
    · simp only [↓yaa, ↓yab, ↓yac, ↓yad, ↓yae, ↓yaf, ↓yag, ↓yah, ↓yai, ↓ydb, ↓ydc, ↓ydd, ↓yde, ↓ydf, ↓ydg, ↓yao, ↓yap, ↓ydh, ↓ydi, ↓ydj, ↓ydk, ↓ydl, ↓ydm, ↓ydn, ↓ydo, ↓ydp, ↓yax, yay, yaz, yba, ybb, ybc, ybd, ybe, ybf, ybg, ybh, ybi, ybj, ybk, ybl, ybm, ybn, ybo, ybp, ybq, ybr, ybs, ybt, ybu, ybv, ares, tup, ybw, ybx, yby, argsE, dval, aop, ev, evs, evo, evp, fillL, addrOf, intOf?, ybz, yca, ycb, ycc, ycd, yce, ycf, zah, zag, reduceIte, Nat.reduceEqDiff, ycg, ych, yci, ycj, yck, ycl, ycm, ycn, yco, ycp, ycq, ycr, zap, zao, reduceCtorEq, zbb, zbc, zba, zaz, Nat.reduceAdd, Nat.reduceMul, zaq, zar, eqPtr, zae, zaf, zab, zaa, zac, zad, hload, hstore, zal, zam, Nat.reduceAdd, Nat.reduceLeDiff, zbb, zas, zat, one, zau, zaw, zav, splice, zaj, zak, zab, zaa, ycs, yct, ycu, ycv, ycw, ycx, ycy, ycz, zan, zai, zax, zay, and_self, true_and, and_true, lenV, yda, Nat.le_refl, if_true, ydq, ydr, yds, ne_eq, not_true_eq_false, not_false_eq_true, ← decide_not, Decidable.not_not, ydt, ydu, ydz, ydv, ydw, List.drop_zero, eq_self, Bool.false_eq_true, List.getElem?_toArray, yea, yeb, List.nil_append, List.cons_append, Bool.false_and, Int.reduceEq, Int.reduceLT, Int.reduceLE, Int.reduceNe, zbc, zbb, yec, yed, yee, yef, ydx, ydy, go, t7, list7, hfew, h1, h2]
      have go := f0.gets go
      have gr := f0.gets gr
      have si := si.frame0 f0
      clear f0 hfew
      generalize G ++ [some (⟨true, [.int .i64 o.root, .bool o.opn, .string o.run, .int .i64 o.next.ver, .int .i64 o.next.first, .int .i64 o.next.til, .slice a o.next.ch.length z]⟩ : Blk)] = G at *
      refine f124 fun H1 a1 z1 f1 si1 nl1 nw1 => ?_
      have hdv : (dec s).1.v a1 z1 = .agg #[.int .i64 (dec s).1.root, .bool (dec s).1.opn, .string (dec s).1.run, .int .i64 (dec s).1.next.ver, .int .i64 (dec s).1.next.first, .int .i64 (dec s).1.next.til, .slice a1 (dec s).1.next.ch.length z1] := rfl
      rw [hdv]
      have f1 := f1.push (some (⟨true, [.int .i64 (dec s).1.root, .bool (dec s).1.opn, .string (dec s).1.run, .int .i64 (dec s).1.next.ver, .int .i64 (dec s).1.next.first, .int .i64 (dec s).1.next.til, .slice a1 (dec s).1.next.ch.length z1]⟩ : Blk))
      have si1 := si1.push (some (⟨true, [.int .i64 (dec s).1.root, .bool (dec s).1.opn, .string (dec s).1.run, .int .i64 (dec s).1.next.ver, .int .i64 (dec s).1.next.first, .int .i64 (dec s).1.next.til, .slice a1 (dec s).1.next.ch.length z1]⟩ : Blk))
      have g1 : hget (H1 ++ [some (⟨true, [.int .i64 (dec s).1.root, .bool (dec s).1.opn, .string (dec s).1.run, .int .i64 (dec s).1.next.ver, .int .i64 (dec s).1.next.first, .int .i64 (dec s).1.next.til, .slice a1 (dec s).1.next.ch.length z1]⟩ : Blk)]) H1.length = some (⟨true, [.int .i64 (dec s).1.root, .bool (dec s).1.opn, .string (dec s).1.run, .int .i64 (dec s).1.next.ver, .int .i64 (dec s).1.next.first, .int .i64 (dec s).1.next.til, .slice a1 (dec s).1.next.ch.length z1]⟩ : Blk) := ydu
      simp only [↓yaa, ↓yab, ↓yac, ↓yad, ↓yae, ↓yaf, ↓yag, ↓yah, ↓yai, ↓ydb, ↓ydc, ↓ydd, ↓yde, ↓ydf, ↓ydg, ↓yao, ↓yap, ↓ydh, ↓ydi, ↓ydj, ↓ydk, ↓ydl, ↓ydm, ↓ydn, ↓ydo, ↓ydp, ↓yax, yay, yaz, yba, ybb, ybc, ybd, ybe, ybf, ybg, ybh, ybi, ybj, ybk, ybl, ybm, ybn, ybo, ybp, ybq, ybr, ybs, ybt, ybu, ybv, ares, tup, ybw, ybx, yby, argsE, dval, aop, ev, evs, evo, evp, fillL, addrOf, intOf?, ybz, yca, ycb, ycc, ycd, yce, ycf, zah, zag, reduceIte, Nat.reduceEqDiff, ycg, ych, yci, ycj, yck, ycl, ycm, ycn, yco, ycp, ycq, ycr, zap, zao, reduceCtorEq, zbb, zbc, zba, zaz, Nat.reduceAdd, Nat.reduceMul, zaq, zar, eqPtr, zae, zaf, zab, zaa, zac, zad, hload, hstore, zal, zam, Nat.reduceAdd, Nat.reduceLeDiff, zbb, zas, zat, one, zau, zaw, zav, splice, zaj, zak, zab, zaa, ycs, yct, ycu, ycv, ycw, ycx, ycy, ycz, zan, zai, zax, zay, and_self, true_and, and_true, lenV, yda, Nat.le_refl, if_true, ydq, ydr, yds, ne_eq, not_true_eq_false, not_false_eq_true, ← decide_not, Decidable.not_not, ydt, ydu, ydz, ydv, ydw, List.drop_zero, eq_self, Bool.false_eq_true, List.getElem?_toArray, yea, yeb, List.nil_append, List.cons_append, Bool.false_and, Int.reduceEq, Int.reduceLT, Int.reduceLE, Int.reduceNe, zbc, zbb, yec, yed, yee, yef, ydx, ydy, s7, t7, list7]
      generalize H1 ++ [some (⟨true, [.int .i64 (dec s).1.root, .bool (dec s).1.opn, .string (dec s).1.run, .int .i64 (dec s).1.next.ver, .int .i64 (dec s).1.next.first, .int .i64 (dec s).1.next.til, .slice a1 (dec s).1.next.ch.length z1]⟩ : Blk)] = G1 at *
      by_cases hd : (dec s).2 = 0
      · have hes := dec_enc (by omega) hd
        simp only [↓yaa, ↓yab, ↓yac, ↓yad, ↓yae, ↓yaf, ↓yag, ↓yah, ↓yai, ↓ydb, ↓ydc, ↓ydd, ↓yde, ↓ydf, ↓ydg, ↓yao, ↓yap, ↓ydh, ↓ydi, ↓ydj, ↓ydk, ↓ydl, ↓ydm, ↓ydn, ↓ydo, ↓ydp, ↓yax, yay, yaz, yba, ybb, ybc, ybd, ybe, ybf, ybg, ybh, ybi, ybj, ybk, ybl, ybm, ybn, ybo, ybp, ybq, ybr, ybs, ybt, ybu, ybv, ares, tup, ybw, ybx, yby, argsE, dval, aop, ev, evs, evo, evp, fillL, addrOf, intOf?, ybz, yca, ycb, ycc, ycd, yce, ycf, zah, zag, reduceIte, Nat.reduceEqDiff, ycg, ych, yci, ycj, yck, ycl, ycm, ycn, yco, ycp, ycq, ycr, zap, zao, reduceCtorEq, zbb, zbc, zba, zaz, Nat.reduceAdd, Nat.reduceMul, zaq, zar, eqPtr, zae, zaf, zab, zaa, zac, zad, hload, hstore, zal, zam, Nat.reduceAdd, Nat.reduceLeDiff, zbb, zas, zat, one, zau, zaw, zav, splice, zaj, zak, zab, zaa, ycs, yct, ycu, ycv, ycw, ycx, ycy, ycz, zan, zai, zax, zay, and_self, true_and, and_true, lenV, yda, Nat.le_refl, if_true, ydq, ydr, yds, ne_eq, not_true_eq_false, not_false_eq_true, ← decide_not, Decidable.not_not, ydt, ydu, ydz, ydv, ydw, List.drop_zero, eq_self, Bool.false_eq_true, List.getElem?_toArray, yea, yeb, List.nil_append, List.cons_append, Bool.false_and, Int.reduceEq, Int.reduceLT, Int.reduceLE, Int.reduceNe, zbc, zbb, yec, yed, yee, yef, ydx, ydy, hd, g1, t7, list7]
        rw [← hdv]
        refine f111 si1 (dec_len s) (dec_u64 s) fun H2 f2 => ?_
        have f2 := f1.then f2
        clear f1 si1 g1
        simp only [↓yaa, ↓yab, ↓yac, ↓yad, ↓yae, ↓yaf, ↓yag, ↓yah, ↓yai, ↓ydb, ↓ydc, ↓ydd, ↓yde, ↓ydf, ↓ydg, ↓yao, ↓yap, ↓ydh, ↓ydi, ↓ydj, ↓ydk, ↓ydl, ↓ydm, ↓ydn, ↓ydo, ↓ydp, ↓yax, yay, yaz, yba, ybb, ybc, ybd, ybe, ybf, ybg, ybh, ybi, ybj, ybk, ybl, ybm, ybn, ybo, ybp, ybq, ybr, ybs, ybt, ybu, ybv, ares, tup, ybw, ybx, yby, argsE, dval, aop, ev, evs, evo, evp, fillL, addrOf, intOf?, ybz, yca, ycb, ycc, ycd, yce, ycf, zah, zag, reduceIte, Nat.reduceEqDiff, ycg, ych, yci, ycj, yck, ycl, ycm, ycn, yco, ycp, ycq, ycr, zap, zao, reduceCtorEq, zbb, zbc, zba, zaz, Nat.reduceAdd, Nat.reduceMul, zaq, zar, eqPtr, zae, zaf, zab, zaa, zac, zad, hload, hstore, zal, zam, Nat.reduceAdd, Nat.reduceLeDiff, zbb, zas, zat, one, zau, zaw, zav, splice, zaj, zak, zab, zaa, ycs, yct, ycu, ycv, ycw, ycx, ycy, ycz, zan, zai, zax, zay, and_self, true_and, and_true, lenV, yda, Nat.le_refl, if_true, ydq, ydr, yds, ne_eq, not_true_eq_false, not_false_eq_true, ← decide_not, Decidable.not_not, ydt, ydu, ydz, ydv, ydw, List.drop_zero, eq_self, Bool.false_eq_true, List.getElem?_toArray, yea, yeb, List.nil_append, List.cons_append, Bool.false_and, Int.reduceEq, Int.reduceLT, Int.reduceLE, Int.reduceNe, zbc, zbb, yec, yed, yee, yef, ydx, ydy, hes, binV_strNe]
        have go1 := (f2).gets go
        have gr1 := (f2).gets gr
        have si1 := si.frame0 (f2)
        simp only [↓yaa, ↓yab, ↓yac, ↓yad, ↓yae, ↓yaf, ↓yag, ↓yah, ↓yai, ↓ydb, ↓ydc, ↓ydd, ↓yde, ↓ydf, ↓ydg, ↓yao, ↓yap, ↓ydh, ↓ydi, ↓ydj, ↓ydk, ↓ydl, ↓ydm, ↓ydn, ↓ydo, ↓ydp, ↓yax, yay, yaz, yba, ybb, ybc, ybd, ybe, ybf, ybg, ybh, ybi, ybj, ybk, ybl, ybm, ybn, ybo, ybp, ybq, ybr, ybs, ybt, ybu, ybv, ares, tup, ybw, ybx, yby, argsE, dval, aop, ev, evs, evo, evp, fillL, addrOf, intOf?, ybz, yca, ycb, ycc, ycd, yce, ycf, zah, zag, reduceIte, Nat.reduceEqDiff, ycg, ych, yci, ycj, yck, ycl, ycm, ycn, yco, ycp, ycq, ycr, zap, zao, reduceCtorEq, zbb, zbc, zba, zaz, Nat.reduceAdd, Nat.reduceMul, zaq, zar, eqPtr, zae, zaf, zab, zaa, zac, zad, hload, hstore, zal, zam, Nat.reduceAdd, Nat.reduceLeDiff, zbb, zas, zat, one, zau, zaw, zav, splice, zaj, zak, zab, zaa, ycs, yct, ycu, ycv, ycw, ycx, ycy, ycz, zan, zai, zax, zay, and_self, true_and, and_true, lenV, yda, Nat.le_refl, if_true, ydq, ydr, yds, ne_eq, not_true_eq_false, not_false_eq_true, ← decide_not, Decidable.not_not, ydt, ydu, ydz, ydv, ydw, List.drop_zero, eq_self, Bool.false_eq_true, List.getElem?_toArray, yea, yeb, List.nil_append, List.cons_append, Bool.false_and, Int.reduceEq, Int.reduceLT, Int.reduceLE, Int.reduceNe, zbc, zbb, yec, yed, yee, yef, ydx, ydy, go1, t7, list7]
        rw [← hov]
        refine f111 si1 hl hok fun H3 f3 => ?_
        have go2 := f3.gets go1
        have gr2 := f3.gets gr1
        have si2 := si1.frame0 f3
        by_cases he : o.err = 0
        · have e1 : o.enc.2 = 0 := by rw [(enc_err o).1, he]
          obtain ⟨hde, hsz⟩ := enc_read he
          have hs28 : ¬ (28 : Int) < (o.enc.1.size : Int) := by omega
          simp only [↓yaa, ↓yab, ↓yac, ↓yad, ↓yae, ↓yaf, ↓yag, ↓yah, ↓yai, ↓ydb, ↓ydc, ↓ydd, ↓yde, ↓ydf, ↓ydg, ↓yao, ↓yap, ↓ydh, ↓ydi, ↓ydj, ↓ydk, ↓ydl, ↓ydm, ↓ydn, ↓ydo, ↓ydp, ↓yax, yay, yaz, yba, ybb, ybc, ybd, ybe, ybf, ybg, ybh, ybi, ybj, ybk, ybl, ybm, ybn, ybo, ybp, ybq, ybr, ybs, ybt, ybu, ybv, ares, tup, ybw, ybx, yby, argsE, dval, aop, ev, evs, evo, evp, fillL, addrOf, intOf?, ybz, yca, ycb, ycc, ycd, yce, ycf, zah, zag, reduceIte, Nat.reduceEqDiff, ycg, ych, yci, ycj, yck, ycl, ycm, ycn, yco, ycp, ycq, ycr, zap, zao, reduceCtorEq, zbb, zbc, zba, zaz, Nat.reduceAdd, Nat.reduceMul, zaq, zar, eqPtr, zae, zaf, zab, zaa, zac, zad, hload, hstore, zal, zam, Nat.reduceAdd, Nat.reduceLeDiff, zbb, zas, zat, one, zau, zaw, zav, splice, zaj, zak, zab, zaa, ycs, yct, ycu, ycv, ycw, ycx, ycy, ycz, zan, zai, zax, zay, and_self, true_and, and_true, lenV, yda, Nat.le_refl, if_true, ydq, ydr, yds, ne_eq, not_true_eq_false, not_false_eq_true, ← decide_not, Decidable.not_not, ydt, ydu, ydz, ydv, ydw, List.drop_zero, eq_self, Bool.false_eq_true, List.getElem?_toArray, yea, yeb, List.nil_append, List.cons_append, Bool.false_and, Int.reduceEq, Int.reduceLT, Int.reduceLE, Int.reduceNe, zbc, zbb, yec, yed, yee, yef, ydx, ydy, e1]
          refine f124 fun H4 a2 z2 f4 si4 nl4 nw4 => ?_
          rw [hde] at si4 ⊢
          simp only at si4
          rw [hovz a2 z2]
          have f4 := f4.push (some (⟨true, [.int .i64 o.root, .bool o.opn, .string o.run, .int .i64 o.next.ver, .int .i64 o.next.first, .int .i64 o.next.til, .slice a2 o.next.ch.length z2]⟩ : Blk))
          have go3 := f4.gets go2
          have gr3 := f4.gets gr2
          have si3 := si2.frame0 f4
          have si4 := si4.push (some (⟨true, [.int .i64 o.root, .bool o.opn, .string o.run, .int .i64 o.next.ver, .int .i64 o.next.first, .int .i64 o.next.til, .slice a2 o.next.ch.length z2]⟩ : Blk))
          have g4 : hget (H4 ++ [some (⟨true, [.int .i64 o.root, .bool o.opn, .string o.run, .int .i64 o.next.ver, .int .i64 o.next.first, .int .i64 o.next.til, .slice a2 o.next.ch.length z2]⟩ : Blk)]) H4.length = some (⟨true, [.int .i64 o.root, .bool o.opn, .string o.run, .int .i64 o.next.ver, .int .i64 o.next.first, .int .i64 o.next.til, .slice a2 o.next.ch.length z2]⟩ : Blk) := ydu
          simp only [↓yaa, ↓yab, ↓yac, ↓yad, ↓yae, ↓yaf, ↓yag, ↓yah, ↓yai, ↓ydb, ↓ydc, ↓ydd, ↓yde, ↓ydf, ↓ydg, ↓yao, ↓yap, ↓ydh, ↓ydi, ↓ydj, ↓ydk, ↓ydl, ↓ydm, ↓ydn, ↓ydo, ↓ydp, ↓yax, yay, yaz, yba, ybb, ybc, ybd, ybe, ybf, ybg, ybh, ybi, ybj, ybk, ybl, ybm, ybn, ybo, ybp, ybq, ybr, ybs, ybt, ybu, ybv, ares, tup, ybw, ybx, yby, argsE, dval, aop, ev, evs, evo, evp, fillL, addrOf, intOf?, ybz, yca, ycb, ycc, ycd, yce, ycf, zah, zag, reduceIte, Nat.reduceEqDiff, ycg, ych, yci, ycj, yck, ycl, ycm, ycn, yco, ycp, ycq, ycr, zap, zao, reduceCtorEq, zbb, zbc, zba, zaz, Nat.reduceAdd, Nat.reduceMul, zaq, zar, eqPtr, zae, zaf, zab, zaa, zac, zad, hload, hstore, zal, zam, Nat.reduceAdd, Nat.reduceLeDiff, zbb, zas, zat, one, zau, zaw, zav, splice, zaj, zak, zab, zaa, ycs, yct, ycu, ycv, ycw, ycx, ycy, ycz, zan, zai, zax, zay, and_self, true_and, and_true, lenV, yda, Nat.le_refl, if_true, ydq, ydr, yds, ne_eq, not_true_eq_false, not_false_eq_true, ← decide_not, Decidable.not_not, ydt, ydu, ydz, ydv, ydw, List.drop_zero, eq_self, Bool.false_eq_true, List.getElem?_toArray, yea, yeb, List.nil_append, List.cons_append, Bool.false_and, Int.reduceEq, Int.reduceLT, Int.reduceLE, Int.reduceNe, zbc, zbb, yec, yed, yee, yef, ydx, ydy, s7, t7, list7]
          generalize H4 ++ [some (⟨true, [.int .i64 o.root, .bool o.opn, .string o.run, .int .i64 o.next.ver, .int .i64 o.next.first, .int .i64 o.next.til, .slice a2 o.next.ch.length z2]⟩ : Blk)] = G4 at *
          simp only [↓yaa, ↓yab, ↓yac, ↓yad, ↓yae, ↓yaf, ↓yag, ↓yah, ↓yai, ↓ydb, ↓ydc, ↓ydd, ↓yde, ↓ydf, ↓ydg, ↓yao, ↓yap, ↓ydh, ↓ydi, ↓ydj, ↓ydk, ↓ydl, ↓ydm, ↓ydn, ↓ydo, ↓ydp, ↓yax, yay, yaz, yba, ybb, ybc, ybd, ybe, ybf, ybg, ybh, ybi, ybj, ybk, ybl, ybm, ybn, ybo, ybp, ybq, ybr, ybs, ybt, ybu, ybv, ares, tup, ybw, ybx, yby, argsE, dval, aop, ev, evs, evo, evp, fillL, addrOf, intOf?, ybz, yca, ycb, ycc, ycd, yce, ycf, zah, zag, reduceIte, Nat.reduceEqDiff, ycg, ych, yci, ycj, yck, ycl, ycm, ycn, yco, ycp, ycq, ycr, zap, zao, reduceCtorEq, zbb, zbc, zba, zaz, Nat.reduceAdd, Nat.reduceMul, zaq, zar, eqPtr, zae, zaf, zab, zaa, zac, zad, hload, hstore, zal, zam, Nat.reduceAdd, Nat.reduceLeDiff, zbb, zas, zat, one, zau, zaw, zav, splice, zaj, zak, zab, zaa, ycs, yct, ycu, ycv, ycw, ycx, ycy, ycz, zan, zai, zax, zay, and_self, true_and, and_true, lenV, yda, Nat.le_refl, if_true, ydq, ydr, yds, ne_eq, not_true_eq_false, not_false_eq_true, ← decide_not, Decidable.not_not, ydt, ydu, ydz, ydv, ydw, List.drop_zero, eq_self, Bool.false_eq_true, List.getElem?_toArray, yea, yeb, List.nil_append, List.cons_append, Bool.false_and, Int.reduceEq, Int.reduceLT, Int.reduceLE, Int.reduceNe, zbc, zbb, yec, yed, yee, yef, ydx, ydy, s7, t7, list7, go3, g4]
          rw [← hov, ← hovz a2 z2]
          refine f126 si4 si3 hl fun H5 f5 => ?_
          have go4 := f5.gets go3
          have gr4 := f5.gets gr3
          have si5 := si3.frame0 f5
          simp only [↓yaa, ↓yab, ↓yac, ↓yad, ↓yae, ↓yaf, ↓yag, ↓yah, ↓yai, ↓ydb, ↓ydc, ↓ydd, ↓yde, ↓ydf, ↓ydg, ↓yao, ↓yap, ↓ydh, ↓ydi, ↓ydj, ↓ydk, ↓ydl, ↓ydm, ↓ydn, ↓ydo, ↓ydp, ↓yax, yay, yaz, yba, ybb, ybc, ybd, ybe, ybf, ybg, ybh, ybi, ybj, ybk, ybl, ybm, ybn, ybo, ybp, ybq, ybr, ybs, ybt, ybu, ybv, ares, tup, ybw, ybx, yby, argsE, dval, aop, ev, evs, evo, evp, fillL, addrOf, intOf?, ybz, yca, ycb, ycc, ycd, yce, ycf, zah, zag, reduceIte, Nat.reduceEqDiff, ycg, ych, yci, ycj, yck, ycl, ycm, ycn, yco, ycp, ycq, ycr, zap, zao, reduceCtorEq, zbb, zbc, zba, zaz, Nat.reduceAdd, Nat.reduceMul, zaq, zar, eqPtr, zae, zaf, zab, zaa, zac, zad, hload, hstore, zal, zam, Nat.reduceAdd, Nat.reduceLeDiff, zbb, zas, zat, one, zau, zaw, zav, splice, zaj, zak, zab, zaa, ycs, yct, ycu, ycv, ycw, ycx, ycy, ycz, zan, zai, zax, zay, and_self, true_and, and_true, lenV, yda, Nat.le_refl, if_true, ydq, ydr, yds, ne_eq, not_true_eq_false, not_false_eq_true, ← decide_not, Decidable.not_not, ydt, ydu, ydz, ydv, ydw, List.drop_zero, eq_self, Bool.false_eq_true, List.getElem?_toArray, yea, yeb, List.nil_append, List.cons_append, Bool.false_and, Int.reduceEq, Int.reduceLT, Int.reduceLE, Int.reduceNe, zbc, zbb, yec, yed, yee, yef, ydx, ydy, heq, hs28, go4, gr4, t7, list7, ta6, li6]
          rw [← hov, ← hrv]
          refine f130 si5 hl hok fun H6 f6 => ?_
          have go5 := f6.gets go4
          have gr5 := f6.gets gr4
          have si6 := si5.frame0 f6
          rw [hmk e1]
          by_cases c1 : 65535 ≤ r.rank
          · rw [if_pos c1]
            have gr6 := ((Frm.refl [] H6).push (some (⟨true, [.int .i64 0, .int .i64 0, .int .i64 0, .int .i64 0, .int .i64 0, .int .i64 0, .int .i64 0, .int .i64 0, .int .i64 0, .int .i64 0, .int .i64 0, .string ⟨#[]⟩]⟩ : Blk))).gets gr5
            simp only [↓yaa, ↓yab, ↓yac, ↓yad, ↓yae, ↓yaf, ↓yag, ↓yah, ↓yai, ↓ydb, ↓ydc, ↓ydd, ↓yde, ↓ydf, ↓ydg, ↓yao, ↓yap, ↓ydh, ↓ydi, ↓ydj, ↓ydk, ↓ydl, ↓ydm, ↓ydn, ↓ydo, ↓ydp, ↓yax, yay, yaz, yba, ybb, ybc, ybd, ybe, ybf, ybg, ybh, ybi, ybj, ybk, ybl, ybm, ybn, ybo, ybp, ybq, ybr, ybs, ybt, ybu, ybv, ares, tup, ybw, ybx, yby, argsE, dval, aop, ev, evs, evo, evp, fillL, addrOf, intOf?, ybz, yca, ycb, ycc, ycd, yce, ycf, zah, zag, reduceIte, Nat.reduceEqDiff, ycg, ych, yci, ycj, yck, ycl, ycm, ycn, yco, ycp, ycq, ycr, zap, zao, reduceCtorEq, zbb, zbc, zba, zaz, Nat.reduceAdd, Nat.reduceMul, zaq, zar, eqPtr, zae, zaf, zab, zaa, zac, zad, hload, hstore, zal, zam, Nat.reduceAdd, Nat.reduceLeDiff, zbb, zas, zat, one, zau, zaw, zav, splice, zaj, zak, zab, zaa, ycs, yct, ycu, ycv, ycw, ycx, ycy, ycz, zan, zai, zax, zay, and_self, true_and, and_true, lenV, yda, Nat.le_refl, if_true, ydq, ydr, yds, ne_eq, not_true_eq_false, not_false_eq_true, ← decide_not, Decidable.not_not, ydt, ydu, ydz, ydv, ydw, List.drop_zero, eq_self, Bool.false_eq_true, List.getElem?_toArray, yea, yeb, List.nil_append, List.cons_append, Bool.false_and, Int.reduceEq, Int.reduceLT, Int.reduceLE, Int.reduceNe, zbc, zbb, yec, yed, yee, yef, ydx, ydy, zeroFr, Fr.v, size12, take12, list12, gr6, c1]
          · rw [if_neg c1]
            by_cases c2 : (⟨3, r.node, -1, 1, 2, 0, 0, 0, slot, r.rank, r.epoch, o.enc.1⟩ : Fr).Ok
            · rw [if_pos c2]
              have hF : (⟨3, r.node, -1, 1, 2, 0, 0, 0, slot, r.rank, r.epoch, o.enc.1⟩ : Fr).off = (o, 0) := by
                unfold Fr.off
                rw [if_pos ⟨rfl, c2⟩]; exact hde
              have hFv : (⟨3, r.node, -1, 1, 2, 0, 0, 0, slot, r.rank, r.epoch, o.enc.1⟩ : Fr).v = .agg #[.int .i64 3, .int .i64 r.node, .int .i64 (-1), .int .i64 1, .int .i64 2, .int .i64 0, .int .i64 0, .int .i64 0, .int .i64 slot, .int .i64 r.rank, .int .i64 r.epoch, .string o.enc.1] := rfl
              have f7 := (Frm.refl [] H6).push (some (⟨true, [.int .i64 3, .int .i64 r.node, .int .i64 (-1), .int .i64 1, .int .i64 2, .int .i64 0, .int .i64 0, .int .i64 0, .int .i64 slot, .int .i64 r.rank, .int .i64 r.epoch, .string o.enc.1]⟩ : Blk))
              have go6 := f7.gets go5
              have gr6 := f7.gets gr5
              have si7 := si6.frame0 f7
              have g7 : hget (H6 ++ [some (⟨true, [.int .i64 3, .int .i64 r.node, .int .i64 (-1), .int .i64 1, .int .i64 2, .int .i64 0, .int .i64 0, .int .i64 0, .int .i64 slot, .int .i64 r.rank, .int .i64 r.epoch, .string o.enc.1]⟩ : Blk)]) H6.length = some (⟨true, [.int .i64 3, .int .i64 r.node, .int .i64 (-1), .int .i64 1, .int .i64 2, .int .i64 0, .int .i64 0, .int .i64 0, .int .i64 slot, .int .i64 r.rank, .int .i64 r.epoch, .string o.enc.1]⟩ : Blk) := ydu
              simp only [↓yaa, ↓yab, ↓yac, ↓yad, ↓yae, ↓yaf, ↓yag, ↓yah, ↓yai, ↓ydb, ↓ydc, ↓ydd, ↓yde, ↓ydf, ↓ydg, ↓yao, ↓yap, ↓ydh, ↓ydi, ↓ydj, ↓ydk, ↓ydl, ↓ydm, ↓ydn, ↓ydo, ↓ydp, ↓yax, yay, yaz, yba, ybb, ybc, ybd, ybe, ybf, ybg, ybh, ybi, ybj, ybk, ybl, ybm, ybn, ybo, ybp, ybq, ybr, ybs, ybt, ybu, ybv, ares, tup, ybw, ybx, yby, argsE, dval, aop, ev, evs, evo, evp, fillL, addrOf, intOf?, ybz, yca, ycb, ycc, ycd, yce, ycf, zah, zag, reduceIte, Nat.reduceEqDiff, ycg, ych, yci, ycj, yck, ycl, ycm, ycn, yco, ycp, ycq, ycr, zap, zao, reduceCtorEq, zbb, zbc, zba, zaz, Nat.reduceAdd, Nat.reduceMul, zaq, zar, eqPtr, zae, zaf, zab, zaa, zac, zad, hload, hstore, zal, zam, Nat.reduceAdd, Nat.reduceLeDiff, zbb, zas, zat, one, zau, zaw, zav, splice, zaj, zak, zab, zaa, ycs, yct, ycu, ycv, ycw, ycx, ycy, ycz, zan, zai, zax, zay, and_self, true_and, and_true, lenV, yda, Nat.le_refl, if_true, ydq, ydr, yds, ne_eq, not_true_eq_false, not_false_eq_true, ← decide_not, Decidable.not_not, ydt, ydu, ydz, ydv, ydw, List.drop_zero, eq_self, Bool.false_eq_true, List.getElem?_toArray, yea, yeb, List.nil_append, List.cons_append, Bool.false_and, Int.reduceEq, Int.reduceLT, Int.reduceLE, Int.reduceNe, zbc, zbb, yec, yed, yee, yef, ydx, ydy, Fr.v, size12, take12, list12]
              generalize H6 ++ [some (⟨true, [.int .i64 3, .int .i64 r.node, .int .i64 (-1), .int .i64 1, .int .i64 2, .int .i64 0, .int .i64 0, .int .i64 0, .int .i64 slot, .int .i64 r.rank, .int .i64 r.epoch, .string o.enc.1]⟩ : Blk)] = G7 at *
              try simp only [↓yaa, ↓yab, ↓yac, ↓yad, ↓yae, ↓yaf, ↓yag, ↓yah, ↓yai, ↓ydb, ↓ydc, ↓ydd, ↓yde, ↓ydf, ↓ydg, ↓yao, ↓yap, ↓ydh, ↓ydi, ↓ydj, ↓ydk, ↓ydl, ↓ydm, ↓ydn, ↓ydo, ↓ydp, ↓yax, yay, yaz, yba, ybb, ybc, ybd, ybe, ybf, ybg, ybh, ybi, ybj, ybk, ybl, ybm, ybn, ybo, ybp, ybq, ybr, ybs, ybt, ybu, ybv, ares, tup, ybw, ybx, yby, argsE, dval, aop, ev, evs, evo, evp, fillL, addrOf, intOf?, ybz, yca, ycb, ycc, ycd, yce, ycf, zah, zag, reduceIte, Nat.reduceEqDiff, ycg, ych, yci, ycj, yck, ycl, ycm, ycn, yco, ycp, ycq, ycr, zap, zao, reduceCtorEq, zbb, zbc, zba, zaz, Nat.reduceAdd, Nat.reduceMul, zaq, zar, eqPtr, zae, zaf, zab, zaa, zac, zad, hload, hstore, zal, zam, Nat.reduceAdd, Nat.reduceLeDiff, zbb, zas, zat, one, zau, zaw, zav, splice, zaj, zak, zab, zaa, ycs, yct, ycu, ycv, ycw, ycx, ycy, ycz, zan, zai, zax, zay, and_self, true_and, and_true, lenV, yda, Nat.le_refl, if_true, ydq, ydr, yds, ne_eq, not_true_eq_false, not_false_eq_true, ← decide_not, Decidable.not_not, ydt, ydu, ydz, ydv, ydw, List.drop_zero, eq_self, Bool.false_eq_true, List.getElem?_toArray, yea, yeb, List.nil_append, List.cons_append, Bool.false_and, Int.reduceEq, Int.reduceLT, Int.reduceLE, Int.reduceNe, zbc, zbb, yec, yed, yee, yef, ydx, ydy, g7, take12, list12]
              rw [← hFv]
              refine f128 fun H8 a8 z8 f8 si8 nl8 nw8 => ?_
              rw [hF] at si8 ⊢
              simp only at si8
              rw [hovz a8 z8]
              have f8 := f8.push (some (⟨true, [.int .i64 o.root, .bool o.opn, .string o.run, .int .i64 o.next.ver, .int .i64 o.next.first, .int .i64 o.next.til, .slice a8 o.next.ch.length z8]⟩ : Blk))
              have go7 := f8.gets go6
              have gr7 := f8.gets gr6
              have g8 := f8.gets g7
              have si9 := si7.frame0 f8
              have si8 := si8.push (some (⟨true, [.int .i64 o.root, .bool o.opn, .string o.run, .int .i64 o.next.ver, .int .i64 o.next.first, .int .i64 o.next.til, .slice a8 o.next.ch.length z8]⟩ : Blk))
              have g9 : hget (H8 ++ [some (⟨true, [.int .i64 o.root, .bool o.opn, .string o.run, .int .i64 o.next.ver, .int .i64 o.next.first, .int .i64 o.next.til, .slice a8 o.next.ch.length z8]⟩ : Blk)]) H8.length = some (⟨true, [.int .i64 o.root, .bool o.opn, .string o.run, .int .i64 o.next.ver, .int .i64 o.next.first, .int .i64 o.next.til, .slice a8 o.next.ch.length z8]⟩ : Blk) := ydu
              simp only [↓yaa, ↓yab, ↓yac, ↓yad, ↓yae, ↓yaf, ↓yag, ↓yah, ↓yai, ↓ydb, ↓ydc, ↓ydd, ↓yde, ↓ydf, ↓ydg, ↓yao, ↓yap, ↓ydh, ↓ydi, ↓ydj, ↓ydk, ↓ydl, ↓ydm, ↓ydn, ↓ydo, ↓ydp, ↓yax, yay, yaz, yba, ybb, ybc, ybd, ybe, ybf, ybg, ybh, ybi, ybj, ybk, ybl, ybm, ybn, ybo, ybp, ybq, ybr, ybs, ybt, ybu, ybv, ares, tup, ybw, ybx, yby, argsE, dval, aop, ev, evs, evo, evp, fillL, addrOf, intOf?, ybz, yca, ycb, ycc, ycd, yce, ycf, zah, zag, reduceIte, Nat.reduceEqDiff, ycg, ych, yci, ycj, yck, ycl, ycm, ycn, yco, ycp, ycq, ycr, zap, zao, reduceCtorEq, zbb, zbc, zba, zaz, Nat.reduceAdd, Nat.reduceMul, zaq, zar, eqPtr, zae, zaf, zab, zaa, zac, zad, hload, hstore, zal, zam, Nat.reduceAdd, Nat.reduceLeDiff, zbb, zas, zat, one, zau, zaw, zav, splice, zaj, zak, zab, zaa, ycs, yct, ycu, ycv, ycw, ycx, ycy, ycz, zan, zai, zax, zay, and_self, true_and, and_true, lenV, yda, Nat.le_refl, if_true, ydq, ydr, yds, ne_eq, not_true_eq_false, not_false_eq_true, ← decide_not, Decidable.not_not, ydt, ydu, ydz, ydv, ydw, List.drop_zero, eq_self, Bool.false_eq_true, List.getElem?_toArray, yea, yeb, List.nil_append, List.cons_append, Bool.false_and, Int.reduceEq, Int.reduceLT, Int.reduceLE, Int.reduceNe, zbc, zbb, yec, yed, yee, yef, ydx, ydy, s7, t7, list7]
              generalize H8 ++ [some (⟨true, [.int .i64 o.root, .bool o.opn, .string o.run, .int .i64 o.next.ver, .int .i64 o.next.first, .int .i64 o.next.til, .slice a8 o.next.ch.length z8]⟩ : Blk)] = G8 at *
              simp only [↓yaa, ↓yab, ↓yac, ↓yad, ↓yae, ↓yaf, ↓yag, ↓yah, ↓yai, ↓ydb, ↓ydc, ↓ydd, ↓yde, ↓ydf, ↓ydg, ↓yao, ↓yap, ↓ydh, ↓ydi, ↓ydj, ↓ydk, ↓ydl, ↓ydm, ↓ydn, ↓ydo, ↓ydp, ↓yax, yay, yaz, yba, ybb, ybc, ybd, ybe, ybf, ybg, ybh, ybi, ybj, ybk, ybl, ybm, ybn, ybo, ybp, ybq, ybr, ybs, ybt, ybu, ybv, ares, tup, ybw, ybx, yby, argsE, dval, aop, ev, evs, evo, evp, fillL, addrOf, intOf?, ybz, yca, ycb, ycc, ycd, yce, ycf, zah, zag, reduceIte, Nat.reduceEqDiff, ycg, ych, yci, ycj, yck, ycl, ycm, ycn, yco, ycp, ycq, ycr, zap, zao, reduceCtorEq, zbb, zbc, zba, zaz, Nat.reduceAdd, Nat.reduceMul, zaq, zar, eqPtr, zae, zaf, zab, zaa, zac, zad, hload, hstore, zal, zam, Nat.reduceAdd, Nat.reduceLeDiff, zbb, zas, zat, one, zau, zaw, zav, splice, zaj, zak, zab, zaa, ycs, yct, ycu, ycv, ycw, ycx, ycy, ycz, zan, zai, zax, zay, and_self, true_and, and_true, lenV, yda, Nat.le_refl, if_true, ydq, ydr, yds, ne_eq, not_true_eq_false, not_false_eq_true, ← decide_not, Decidable.not_not, ydt, ydu, ydz, ydv, ydw, List.drop_zero, eq_self, Bool.false_eq_true, List.getElem?_toArray, yea, yeb, List.nil_append, List.cons_append, Bool.false_and, Int.reduceEq, Int.reduceLT, Int.reduceLE, Int.reduceNe, zbc, zbb, yec, yed, yee, yef, ydx, ydy, s7, t7, list7, go7, g9]
              rw [← hov, ← hovz a8 z8]
              refine f126 si8 si9 hl fun H9 f9 => ?_
              have gr8 := f9.gets gr7
              have g10 := f9.gets g8
              simp only [↓yaa, ↓yab, ↓yac, ↓yad, ↓yae, ↓yaf, ↓yag, ↓yah, ↓yai, ↓ydb, ↓ydc, ↓ydd, ↓yde, ↓ydf, ↓ydg, ↓yao, ↓yap, ↓ydh, ↓ydi, ↓ydj, ↓ydk, ↓ydl, ↓ydm, ↓ydn, ↓ydo, ↓ydp, ↓yax, yay, yaz, yba, ybb, ybc, ybd, ybe, ybf, ybg, ybh, ybi, ybj, ybk, ybl, ybm, ybn, ybo, ybp, ybq, ybr, ybs, ybt, ybu, ybv, ares, tup, ybw, ybx, yby, argsE, dval, aop, ev, evs, evo, evp, fillL, addrOf, intOf?, ybz, yca, ycb, ycc, ycd, yce, ycf, zah, zag, reduceIte, Nat.reduceEqDiff, ycg, ych, yci, ycj, yck, ycl, ycm, ycn, yco, ycp, ycq, ycr, zap, zao, reduceCtorEq, zbb, zbc, zba, zaz, Nat.reduceAdd, Nat.reduceMul, zaq, zar, eqPtr, zae, zaf, zab, zaa, zac, zad, hload, hstore, zal, zam, Nat.reduceAdd, Nat.reduceLeDiff, zbb, zas, zat, one, zau, zaw, zav, splice, zaj, zak, zab, zaa, ycs, yct, ycu, ycv, ycw, ycx, ycy, ycz, zan, zai, zax, zay, and_self, true_and, and_true, lenV, yda, Nat.le_refl, if_true, ydq, ydr, yds, ne_eq, not_true_eq_false, not_false_eq_true, ← decide_not, Decidable.not_not, ydt, ydu, ydz, ydv, ydw, List.drop_zero, eq_self, Bool.false_eq_true, List.getElem?_toArray, yea, yeb, List.nil_append, List.cons_append, Bool.false_and, Int.reduceEq, Int.reduceLT, Int.reduceLE, Int.reduceNe, zbc, zbb, yec, yed, yee, yef, ydx, ydy, heq, gr8, g10, List.take_succ_cons, List.take_zero, List.drop_succ_cons, one]
            · rw [if_neg c2]
              simp only [↓yaa, ↓yab, ↓yac, ↓yad, ↓yae, ↓yaf, ↓yag, ↓yah, ↓yai, ↓ydb, ↓ydc, ↓ydd, ↓yde, ↓ydf, ↓ydg, ↓yao, ↓yap, ↓ydh, ↓ydi, ↓ydj, ↓ydk, ↓ydl, ↓ydm, ↓ydn, ↓ydo, ↓ydp, ↓yax, yay, yaz, yba, ybb, ybc, ybd, ybe, ybf, ybg, ybh, ybi, ybj, ybk, ybl, ybm, ybn, ybo, ybp, ybq, ybr, ybs, ybt, ybu, ybv, ares, tup, ybw, ybx, yby, argsE, dval, aop, ev, evs, evo, evp, fillL, addrOf, intOf?, ybz, yca, ycb, ycc, ycd, yce, ycf, zah, zag, reduceIte, Nat.reduceEqDiff, ycg, ych, yci, ycj, yck, ycl, ycm, ycn, yco, ycp, ycq, ycr, zap, zao, reduceCtorEq, zbb, zbc, zba, zaz, Nat.reduceAdd, Nat.reduceMul, zaq, zar, eqPtr, zae, zaf, zab, zaa, zac, zad, hload, hstore, zal, zam, Nat.reduceAdd, Nat.reduceLeDiff, zbb, zas, zat, one, zau, zaw, zav, splice, zaj, zak, zab, zaa, ycs, yct, ycu, ycv, ycw, ycx, ycy, ycz, zan, zai, zax, zay, and_self, true_and, and_true, lenV, yda, Nat.le_refl, if_true, ydq, ydr, yds, ne_eq, not_true_eq_false, not_false_eq_true, ← decide_not, Decidable.not_not, ydt, ydu, ydz, ydv, ydw, List.drop_zero, eq_self, Bool.false_eq_true, List.getElem?_toArray, yea, yeb, List.nil_append, List.cons_append, Bool.false_and, Int.reduceEq, Int.reduceLT, Int.reduceLE, Int.reduceNe, zbc, zbb, yec, yed, yee, yef, ydx, ydy, zeroFr, Fr.v, size12, take12, list12]
        · have e1 : o.enc.2 = o.err := (enc_err o).1
          have e2 : o.enc.1 = ⟨#[]⟩ := (enc_err o).2 (by rw [e1]; exact he)
          simp only [↓yaa, ↓yab, ↓yac, ↓yad, ↓yae, ↓yaf, ↓yag, ↓yah, ↓yai, ↓ydb, ↓ydc, ↓ydd, ↓yde, ↓ydf, ↓ydg, ↓yao, ↓yap, ↓ydh, ↓ydi, ↓ydj, ↓ydk, ↓ydl, ↓ydm, ↓ydn, ↓ydo, ↓ydp, ↓yax, yay, yaz, yba, ybb, ybc, ybd, ybe, ybf, ybg, ybh, ybi, ybj, ybk, ybl, ybm, ybn, ybo, ybp, ybq, ybr, ybs, ybt, ybu, ybv, ares, tup, ybw, ybx, yby, argsE, dval, aop, ev, evs, evo, evp, fillL, addrOf, intOf?, ybz, yca, ycb, ycc, ycd, yce, ycf, zah, zag, reduceIte, Nat.reduceEqDiff, ycg, ych, yci, ycj, yck, ycl, ycm, ycn, yco, ycp, ycq, ycr, zap, zao, reduceCtorEq, zbb, zbc, zba, zaz, Nat.reduceAdd, Nat.reduceMul, zaq, zar, eqPtr, zae, zaf, zab, zaa, zac, zad, hload, hstore, zal, zam, Nat.reduceAdd, Nat.reduceLeDiff, zbb, zas, zat, one, zau, zaw, zav, splice, zaj, zak, zab, zaa, ycs, yct, ycu, ycv, ycw, ycx, ycy, ycz, zan, zai, zax, zay, and_self, true_and, and_true, lenV, yda, Nat.le_refl, if_true, ydq, ydr, yds, ne_eq, not_true_eq_false, not_false_eq_true, ← decide_not, Decidable.not_not, ydt, ydu, ydz, ydv, ydw, List.drop_zero, eq_self, Bool.false_eq_true, List.getElem?_toArray, yea, yeb, List.nil_append, List.cons_append, Bool.false_and, Int.reduceEq, Int.reduceLT, Int.reduceLE, Int.reduceNe, zbc, zbb, yec, yed, yee, yef, ydx, ydy, e1, e2, he, go2, t7, list7]
          rw [← hov]
          refine f113 si2 hl fun H4 f4 => ?_
          simp only [↓yaa, ↓yab, ↓yac, ↓yad, ↓yae, ↓yaf, ↓yag, ↓yah, ↓yai, ↓ydb, ↓ydc, ↓ydd, ↓yde, ↓ydf, ↓ydg, ↓yao, ↓yap, ↓ydh, ↓ydi, ↓ydj, ↓ydk, ↓ydl, ↓ydm, ↓ydn, ↓ydo, ↓ydp, ↓yax, yay, yaz, yba, ybb, ybc, ybd, ybe, ybf, ybg, ybh, ybi, ybj, ybk, ybl, ybm, ybn, ybo, ybp, ybq, ybr, ybs, ybt, ybu, ybv, ares, tup, ybw, ybx, yby, argsE, dval, aop, ev, evs, evo, evp, fillL, addrOf, intOf?, ybz, yca, ycb, ycc, ycd, yce, ycf, zah, zag, reduceIte, Nat.reduceEqDiff, ycg, ych, yci, ycj, yck, ycl, ycm, ycn, yco, ycp, ycq, ycr, zap, zao, reduceCtorEq, zbb, zbc, zba, zaz, Nat.reduceAdd, Nat.reduceMul, zaq, zar, eqPtr, zae, zaf, zab, zaa, zac, zad, hload, hstore, zal, zam, Nat.reduceAdd, Nat.reduceLeDiff, zbb, zas, zat, one, zau, zaw, zav, splice, zaj, zak, zab, zaa, ycs, yct, ycu, ycv, ycw, ycx, ycy, ycz, zan, zai, zax, zay, and_self, true_and, and_true, lenV, yda, Nat.le_refl, if_true, ydq, ydr, yds, ne_eq, not_true_eq_false, not_false_eq_true, ← decide_not, Decidable.not_not, ydt, ydu, ydz, ydv, ydw, List.drop_zero, eq_self, Bool.false_eq_true, List.getElem?_toArray, yea, yeb, List.nil_append, List.cons_append, Bool.false_and, Int.reduceEq, Int.reduceLT, Int.reduceLE, Int.reduceNe, zbc, zbb, yec, yed, yee, yef, ydx, ydy, binV_strEq]
      · simp only [↓yaa, ↓yab, ↓yac, ↓yad, ↓yae, ↓yaf, ↓yag, ↓yah, ↓yai, ↓ydb, ↓ydc, ↓ydd, ↓yde, ↓ydf, ↓ydg, ↓yao, ↓yap, ↓ydh, ↓ydi, ↓ydj, ↓ydk, ↓ydl, ↓ydm, ↓ydn, ↓ydo, ↓ydp, ↓yax, yay, yaz, yba, ybb, ybc, ybd, ybe, ybf, ybg, ybh, ybi, ybj, ybk, ybl, ybm, ybn, ybo, ybp, ybq, ybr, ybs, ybt, ybu, ybv, ares, tup, ybw, ybx, yby, argsE, dval, aop, ev, evs, evo, evp, fillL, addrOf, intOf?, ybz, yca, ycb, ycc, ycd, yce, ycf, zah, zag, reduceIte, Nat.reduceEqDiff, ycg, ych, yci, ycj, yck, ycl, ycm, ycn, yco, ycp, ycq, ycr, zap, zao, reduceCtorEq, zbb, zbc, zba, zaz, Nat.reduceAdd, Nat.reduceMul, zaq, zar, eqPtr, zae, zaf, zab, zaa, zac, zad, hload, hstore, zal, zam, Nat.reduceAdd, Nat.reduceLeDiff, zbb, zas, zat, one, zau, zaw, zav, splice, zaj, zak, zab, zaa, ycs, yct, ycu, ycv, ycw, ycx, ycy, ycz, zan, zai, zax, zay, and_self, true_and, and_true, lenV, yda, Nat.le_refl, if_true, ydq, ydr, yds, ne_eq, not_true_eq_false, not_false_eq_true, ← decide_not, Decidable.not_not, ydt, ydu, ydz, ydv, ydw, List.drop_zero, eq_self, Bool.false_eq_true, List.getElem?_toArray, yea, yeb, List.nil_append, List.cons_append, Bool.false_and, Int.reduceEq, Int.reduceLT, Int.reduceLE, Int.reduceNe, zbc, zbb, yec, yed, yee, yef, ydx, ydy, hd]
        clear si1 g1
        have go1 := (f1).gets go
        have gr1 := (f1).gets gr
        have si1 := si.frame0 (f1)
        simp only [↓yaa, ↓yab, ↓yac, ↓yad, ↓yae, ↓yaf, ↓yag, ↓yah, ↓yai, ↓ydb, ↓ydc, ↓ydd, ↓yde, ↓ydf, ↓ydg, ↓yao, ↓yap, ↓ydh, ↓ydi, ↓ydj, ↓ydk, ↓ydl, ↓ydm, ↓ydn, ↓ydo, ↓ydp, ↓yax, yay, yaz, yba, ybb, ybc, ybd, ybe, ybf, ybg, ybh, ybi, ybj, ybk, ybl, ybm, ybn, ybo, ybp, ybq, ybr, ybs, ybt, ybu, ybv, ares, tup, ybw, ybx, yby, argsE, dval, aop, ev, evs, evo, evp, fillL, addrOf, intOf?, ybz, yca, ycb, ycc, ycd, yce, ycf, zah, zag, reduceIte, Nat.reduceEqDiff, ycg, ych, yci, ycj, yck, ycl, ycm, ycn, yco, ycp, ycq, ycr, zap, zao, reduceCtorEq, zbb, zbc, zba, zaz, Nat.reduceAdd, Nat.reduceMul, zaq, zar, eqPtr, zae, zaf, zab, zaa, zac, zad, hload, hstore, zal, zam, Nat.reduceAdd, Nat.reduceLeDiff, zbb, zas, zat, one, zau, zaw, zav, splice, zaj, zak, zab, zaa, ycs, yct, ycu, ycv, ycw, ycx, ycy, ycz, zan, zai, zax, zay, and_self, true_and, and_true, lenV, yda, Nat.le_refl, if_true, ydq, ydr, yds, ne_eq, not_true_eq_false, not_false_eq_true, ← decide_not, Decidable.not_not, ydt, ydu, ydz, ydv, ydw, List.drop_zero, eq_self, Bool.false_eq_true, List.getElem?_toArray, yea, yeb, List.nil_append, List.cons_append, Bool.false_and, Int.reduceEq, Int.reduceLT, Int.reduceLE, Int.reduceNe, zbc, zbb, yec, yed, yee, yef, ydx, ydy, go1, t7, list7]
        rw [← hov]
        refine f111 si1 hl hok fun H3 f3 => ?_
        have go2 := f3.gets go1
        have gr2 := f3.gets gr1
        have si2 := si1.frame0 f3
        by_cases he : o.err = 0
        · have e1 : o.enc.2 = 0 := by rw [(enc_err o).1, he]
          obtain ⟨hde, hsz⟩ := enc_read he
          have hs28 : ¬ (28 : Int) < (o.enc.1.size : Int) := by omega
          simp only [↓yaa, ↓yab, ↓yac, ↓yad, ↓yae, ↓yaf, ↓yag, ↓yah, ↓yai, ↓ydb, ↓ydc, ↓ydd, ↓yde, ↓ydf, ↓ydg, ↓yao, ↓yap, ↓ydh, ↓ydi, ↓ydj, ↓ydk, ↓ydl, ↓ydm, ↓ydn, ↓ydo, ↓ydp, ↓yax, yay, yaz, yba, ybb, ybc, ybd, ybe, ybf, ybg, ybh, ybi, ybj, ybk, ybl, ybm, ybn, ybo, ybp, ybq, ybr, ybs, ybt, ybu, ybv, ares, tup, ybw, ybx, yby, argsE, dval, aop, ev, evs, evo, evp, fillL, addrOf, intOf?, ybz, yca, ycb, ycc, ycd, yce, ycf, zah, zag, reduceIte, Nat.reduceEqDiff, ycg, ych, yci, ycj, yck, ycl, ycm, ycn, yco, ycp, ycq, ycr, zap, zao, reduceCtorEq, zbb, zbc, zba, zaz, Nat.reduceAdd, Nat.reduceMul, zaq, zar, eqPtr, zae, zaf, zab, zaa, zac, zad, hload, hstore, zal, zam, Nat.reduceAdd, Nat.reduceLeDiff, zbb, zas, zat, one, zau, zaw, zav, splice, zaj, zak, zab, zaa, ycs, yct, ycu, ycv, ycw, ycx, ycy, ycz, zan, zai, zax, zay, and_self, true_and, and_true, lenV, yda, Nat.le_refl, if_true, ydq, ydr, yds, ne_eq, not_true_eq_false, not_false_eq_true, ← decide_not, Decidable.not_not, ydt, ydu, ydz, ydv, ydw, List.drop_zero, eq_self, Bool.false_eq_true, List.getElem?_toArray, yea, yeb, List.nil_append, List.cons_append, Bool.false_and, Int.reduceEq, Int.reduceLT, Int.reduceLE, Int.reduceNe, zbc, zbb, yec, yed, yee, yef, ydx, ydy, e1]
          refine f124 fun H4 a2 z2 f4 si4 nl4 nw4 => ?_
          rw [hde] at si4 ⊢
          simp only at si4
          rw [hovz a2 z2]
          have f4 := f4.push (some (⟨true, [.int .i64 o.root, .bool o.opn, .string o.run, .int .i64 o.next.ver, .int .i64 o.next.first, .int .i64 o.next.til, .slice a2 o.next.ch.length z2]⟩ : Blk))
          have go3 := f4.gets go2
          have gr3 := f4.gets gr2
          have si3 := si2.frame0 f4
          have si4 := si4.push (some (⟨true, [.int .i64 o.root, .bool o.opn, .string o.run, .int .i64 o.next.ver, .int .i64 o.next.first, .int .i64 o.next.til, .slice a2 o.next.ch.length z2]⟩ : Blk))
          have g4 : hget (H4 ++ [some (⟨true, [.int .i64 o.root, .bool o.opn, .string o.run, .int .i64 o.next.ver, .int .i64 o.next.first, .int .i64 o.next.til, .slice a2 o.next.ch.length z2]⟩ : Blk)]) H4.length = some (⟨true, [.int .i64 o.root, .bool o.opn, .string o.run, .int .i64 o.next.ver, .int .i64 o.next.first, .int .i64 o.next.til, .slice a2 o.next.ch.length z2]⟩ : Blk) := ydu
          simp only [↓yaa, ↓yab, ↓yac, ↓yad, ↓yae, ↓yaf, ↓yag, ↓yah, ↓yai, ↓ydb, ↓ydc, ↓ydd, ↓yde, ↓ydf, ↓ydg, ↓yao, ↓yap, ↓ydh, ↓ydi, ↓ydj, ↓ydk, ↓ydl, ↓ydm, ↓ydn, ↓ydo, ↓ydp, ↓yax, yay, yaz, yba, ybb, ybc, ybd, ybe, ybf, ybg, ybh, ybi, ybj, ybk, ybl, ybm, ybn, ybo, ybp, ybq, ybr, ybs, ybt, ybu, ybv, ares, tup, ybw, ybx, yby, argsE, dval, aop, ev, evs, evo, evp, fillL, addrOf, intOf?, ybz, yca, ycb, ycc, ycd, yce, ycf, zah, zag, reduceIte, Nat.reduceEqDiff, ycg, ych, yci, ycj, yck, ycl, ycm, ycn, yco, ycp, ycq, ycr, zap, zao, reduceCtorEq, zbb, zbc, zba, zaz, Nat.reduceAdd, Nat.reduceMul, zaq, zar, eqPtr, zae, zaf, zab, zaa, zac, zad, hload, hstore, zal, zam, Nat.reduceAdd, Nat.reduceLeDiff, zbb, zas, zat, one, zau, zaw, zav, splice, zaj, zak, zab, zaa, ycs, yct, ycu, ycv, ycw, ycx, ycy, ycz, zan, zai, zax, zay, and_self, true_and, and_true, lenV, yda, Nat.le_refl, if_true, ydq, ydr, yds, ne_eq, not_true_eq_false, not_false_eq_true, ← decide_not, Decidable.not_not, ydt, ydu, ydz, ydv, ydw, List.drop_zero, eq_self, Bool.false_eq_true, List.getElem?_toArray, yea, yeb, List.nil_append, List.cons_append, Bool.false_and, Int.reduceEq, Int.reduceLT, Int.reduceLE, Int.reduceNe, zbc, zbb, yec, yed, yee, yef, ydx, ydy, s7, t7, list7]
          generalize H4 ++ [some (⟨true, [.int .i64 o.root, .bool o.opn, .string o.run, .int .i64 o.next.ver, .int .i64 o.next.first, .int .i64 o.next.til, .slice a2 o.next.ch.length z2]⟩ : Blk)] = G4 at *
          simp only [↓yaa, ↓yab, ↓yac, ↓yad, ↓yae, ↓yaf, ↓yag, ↓yah, ↓yai, ↓ydb, ↓ydc, ↓ydd, ↓yde, ↓ydf, ↓ydg, ↓yao, ↓yap, ↓ydh, ↓ydi, ↓ydj, ↓ydk, ↓ydl, ↓ydm, ↓ydn, ↓ydo, ↓ydp, ↓yax, yay, yaz, yba, ybb, ybc, ybd, ybe, ybf, ybg, ybh, ybi, ybj, ybk, ybl, ybm, ybn, ybo, ybp, ybq, ybr, ybs, ybt, ybu, ybv, ares, tup, ybw, ybx, yby, argsE, dval, aop, ev, evs, evo, evp, fillL, addrOf, intOf?, ybz, yca, ycb, ycc, ycd, yce, ycf, zah, zag, reduceIte, Nat.reduceEqDiff, ycg, ych, yci, ycj, yck, ycl, ycm, ycn, yco, ycp, ycq, ycr, zap, zao, reduceCtorEq, zbb, zbc, zba, zaz, Nat.reduceAdd, Nat.reduceMul, zaq, zar, eqPtr, zae, zaf, zab, zaa, zac, zad, hload, hstore, zal, zam, Nat.reduceAdd, Nat.reduceLeDiff, zbb, zas, zat, one, zau, zaw, zav, splice, zaj, zak, zab, zaa, ycs, yct, ycu, ycv, ycw, ycx, ycy, ycz, zan, zai, zax, zay, and_self, true_and, and_true, lenV, yda, Nat.le_refl, if_true, ydq, ydr, yds, ne_eq, not_true_eq_false, not_false_eq_true, ← decide_not, Decidable.not_not, ydt, ydu, ydz, ydv, ydw, List.drop_zero, eq_self, Bool.false_eq_true, List.getElem?_toArray, yea, yeb, List.nil_append, List.cons_append, Bool.false_and, Int.reduceEq, Int.reduceLT, Int.reduceLE, Int.reduceNe, zbc, zbb, yec, yed, yee, yef, ydx, ydy, s7, t7, list7, go3, g4]
          rw [← hov, ← hovz a2 z2]
          refine f126 si4 si3 hl fun H5 f5 => ?_
          have go4 := f5.gets go3
          have gr4 := f5.gets gr3
          have si5 := si3.frame0 f5
          simp only [↓yaa, ↓yab, ↓yac, ↓yad, ↓yae, ↓yaf, ↓yag, ↓yah, ↓yai, ↓ydb, ↓ydc, ↓ydd, ↓yde, ↓ydf, ↓ydg, ↓yao, ↓yap, ↓ydh, ↓ydi, ↓ydj, ↓ydk, ↓ydl, ↓ydm, ↓ydn, ↓ydo, ↓ydp, ↓yax, yay, yaz, yba, ybb, ybc, ybd, ybe, ybf, ybg, ybh, ybi, ybj, ybk, ybl, ybm, ybn, ybo, ybp, ybq, ybr, ybs, ybt, ybu, ybv, ares, tup, ybw, ybx, yby, argsE, dval, aop, ev, evs, evo, evp, fillL, addrOf, intOf?, ybz, yca, ycb, ycc, ycd, yce, ycf, zah, zag, reduceIte, Nat.reduceEqDiff, ycg, ych, yci, ycj, yck, ycl, ycm, ycn, yco, ycp, ycq, ycr, zap, zao, reduceCtorEq, zbb, zbc, zba, zaz, Nat.reduceAdd, Nat.reduceMul, zaq, zar, eqPtr, zae, zaf, zab, zaa, zac, zad, hload, hstore, zal, zam, Nat.reduceAdd, Nat.reduceLeDiff, zbb, zas, zat, one, zau, zaw, zav, splice, zaj, zak, zab, zaa, ycs, yct, ycu, ycv, ycw, ycx, ycy, ycz, zan, zai, zax, zay, and_self, true_and, and_true, lenV, yda, Nat.le_refl, if_true, ydq, ydr, yds, ne_eq, not_true_eq_false, not_false_eq_true, ← decide_not, Decidable.not_not, ydt, ydu, ydz, ydv, ydw, List.drop_zero, eq_self, Bool.false_eq_true, List.getElem?_toArray, yea, yeb, List.nil_append, List.cons_append, Bool.false_and, Int.reduceEq, Int.reduceLT, Int.reduceLE, Int.reduceNe, zbc, zbb, yec, yed, yee, yef, ydx, ydy, heq, hs28, go4, gr4, t7, list7, ta6, li6]
          rw [← hov, ← hrv]
          refine f130 si5 hl hok fun H6 f6 => ?_
          have go5 := f6.gets go4
          have gr5 := f6.gets gr4
          have si6 := si5.frame0 f6
          rw [hmk e1]
          by_cases c1 : 65535 ≤ r.rank
          · rw [if_pos c1]
            have gr6 := ((Frm.refl [] H6).push (some (⟨true, [.int .i64 0, .int .i64 0, .int .i64 0, .int .i64 0, .int .i64 0, .int .i64 0, .int .i64 0, .int .i64 0, .int .i64 0, .int .i64 0, .int .i64 0, .string ⟨#[]⟩]⟩ : Blk))).gets gr5
            simp only [↓yaa, ↓yab, ↓yac, ↓yad, ↓yae, ↓yaf, ↓yag, ↓yah, ↓yai, ↓ydb, ↓ydc, ↓ydd, ↓yde, ↓ydf, ↓ydg, ↓yao, ↓yap, ↓ydh, ↓ydi, ↓ydj, ↓ydk, ↓ydl, ↓ydm, ↓ydn, ↓ydo, ↓ydp, ↓yax, yay, yaz, yba, ybb, ybc, ybd, ybe, ybf, ybg, ybh, ybi, ybj, ybk, ybl, ybm, ybn, ybo, ybp, ybq, ybr, ybs, ybt, ybu, ybv, ares, tup, ybw, ybx, yby, argsE, dval, aop, ev, evs, evo, evp, fillL, addrOf, intOf?, ybz, yca, ycb, ycc, ycd, yce, ycf, zah, zag, reduceIte, Nat.reduceEqDiff, ycg, ych, yci, ycj, yck, ycl, ycm, ycn, yco, ycp, ycq, ycr, zap, zao, reduceCtorEq, zbb, zbc, zba, zaz, Nat.reduceAdd, Nat.reduceMul, zaq, zar, eqPtr, zae, zaf, zab, zaa, zac, zad, hload, hstore, zal, zam, Nat.reduceAdd, Nat.reduceLeDiff, zbb, zas, zat, one, zau, zaw, zav, splice, zaj, zak, zab, zaa, ycs, yct, ycu, ycv, ycw, ycx, ycy, ycz, zan, zai, zax, zay, and_self, true_and, and_true, lenV, yda, Nat.le_refl, if_true, ydq, ydr, yds, ne_eq, not_true_eq_false, not_false_eq_true, ← decide_not, Decidable.not_not, ydt, ydu, ydz, ydv, ydw, List.drop_zero, eq_self, Bool.false_eq_true, List.getElem?_toArray, yea, yeb, List.nil_append, List.cons_append, Bool.false_and, Int.reduceEq, Int.reduceLT, Int.reduceLE, Int.reduceNe, zbc, zbb, yec, yed, yee, yef, ydx, ydy, zeroFr, Fr.v, size12, take12, list12, gr6, c1]
          · rw [if_neg c1]
            by_cases c2 : (⟨3, r.node, -1, 1, 2, 0, 0, 0, slot, r.rank, r.epoch, o.enc.1⟩ : Fr).Ok
            · rw [if_pos c2]
              have hF : (⟨3, r.node, -1, 1, 2, 0, 0, 0, slot, r.rank, r.epoch, o.enc.1⟩ : Fr).off = (o, 0) := by
                unfold Fr.off
                rw [if_pos ⟨rfl, c2⟩]; exact hde
              have hFv : (⟨3, r.node, -1, 1, 2, 0, 0, 0, slot, r.rank, r.epoch, o.enc.1⟩ : Fr).v = .agg #[.int .i64 3, .int .i64 r.node, .int .i64 (-1), .int .i64 1, .int .i64 2, .int .i64 0, .int .i64 0, .int .i64 0, .int .i64 slot, .int .i64 r.rank, .int .i64 r.epoch, .string o.enc.1] := rfl
              have f7 := (Frm.refl [] H6).push (some (⟨true, [.int .i64 3, .int .i64 r.node, .int .i64 (-1), .int .i64 1, .int .i64 2, .int .i64 0, .int .i64 0, .int .i64 0, .int .i64 slot, .int .i64 r.rank, .int .i64 r.epoch, .string o.enc.1]⟩ : Blk))
              have go6 := f7.gets go5
              have gr6 := f7.gets gr5
              have si7 := si6.frame0 f7
              have g7 : hget (H6 ++ [some (⟨true, [.int .i64 3, .int .i64 r.node, .int .i64 (-1), .int .i64 1, .int .i64 2, .int .i64 0, .int .i64 0, .int .i64 0, .int .i64 slot, .int .i64 r.rank, .int .i64 r.epoch, .string o.enc.1]⟩ : Blk)]) H6.length = some (⟨true, [.int .i64 3, .int .i64 r.node, .int .i64 (-1), .int .i64 1, .int .i64 2, .int .i64 0, .int .i64 0, .int .i64 0, .int .i64 slot, .int .i64 r.rank, .int .i64 r.epoch, .string o.enc.1]⟩ : Blk) := ydu
              simp only [↓yaa, ↓yab, ↓yac, ↓yad, ↓yae, ↓yaf, ↓yag, ↓yah, ↓yai, ↓ydb, ↓ydc, ↓ydd, ↓yde, ↓ydf, ↓ydg, ↓yao, ↓yap, ↓ydh, ↓ydi, ↓ydj, ↓ydk, ↓ydl, ↓ydm, ↓ydn, ↓ydo, ↓ydp, ↓yax, yay, yaz, yba, ybb, ybc, ybd, ybe, ybf, ybg, ybh, ybi, ybj, ybk, ybl, ybm, ybn, ybo, ybp, ybq, ybr, ybs, ybt, ybu, ybv, ares, tup, ybw, ybx, yby, argsE, dval, aop, ev, evs, evo, evp, fillL, addrOf, intOf?, ybz, yca, ycb, ycc, ycd, yce, ycf, zah, zag, reduceIte, Nat.reduceEqDiff, ycg, ych, yci, ycj, yck, ycl, ycm, ycn, yco, ycp, ycq, ycr, zap, zao, reduceCtorEq, zbb, zbc, zba, zaz, Nat.reduceAdd, Nat.reduceMul, zaq, zar, eqPtr, zae, zaf, zab, zaa, zac, zad, hload, hstore, zal, zam, Nat.reduceAdd, Nat.reduceLeDiff, zbb, zas, zat, one, zau, zaw, zav, splice, zaj, zak, zab, zaa, ycs, yct, ycu, ycv, ycw, ycx, ycy, ycz, zan, zai, zax, zay, and_self, true_and, and_true, lenV, yda, Nat.le_refl, if_true, ydq, ydr, yds, ne_eq, not_true_eq_false, not_false_eq_true, ← decide_not, Decidable.not_not, ydt, ydu, ydz, ydv, ydw, List.drop_zero, eq_self, Bool.false_eq_true, List.getElem?_toArray, yea, yeb, List.nil_append, List.cons_append, Bool.false_and, Int.reduceEq, Int.reduceLT, Int.reduceLE, Int.reduceNe, zbc, zbb, yec, yed, yee, yef, ydx, ydy, Fr.v, size12, take12, list12]
              generalize H6 ++ [some (⟨true, [.int .i64 3, .int .i64 r.node, .int .i64 (-1), .int .i64 1, .int .i64 2, .int .i64 0, .int .i64 0, .int .i64 0, .int .i64 slot, .int .i64 r.rank, .int .i64 r.epoch, .string o.enc.1]⟩ : Blk)] = G7 at *
              try simp only [↓yaa, ↓yab, ↓yac, ↓yad, ↓yae, ↓yaf, ↓yag, ↓yah, ↓yai, ↓ydb, ↓ydc, ↓ydd, ↓yde, ↓ydf, ↓ydg, ↓yao, ↓yap, ↓ydh, ↓ydi, ↓ydj, ↓ydk, ↓ydl, ↓ydm, ↓ydn, ↓ydo, ↓ydp, ↓yax, yay, yaz, yba, ybb, ybc, ybd, ybe, ybf, ybg, ybh, ybi, ybj, ybk, ybl, ybm, ybn, ybo, ybp, ybq, ybr, ybs, ybt, ybu, ybv, ares, tup, ybw, ybx, yby, argsE, dval, aop, ev, evs, evo, evp, fillL, addrOf, intOf?, ybz, yca, ycb, ycc, ycd, yce, ycf, zah, zag, reduceIte, Nat.reduceEqDiff, ycg, ych, yci, ycj, yck, ycl, ycm, ycn, yco, ycp, ycq, ycr, zap, zao, reduceCtorEq, zbb, zbc, zba, zaz, Nat.reduceAdd, Nat.reduceMul, zaq, zar, eqPtr, zae, zaf, zab, zaa, zac, zad, hload, hstore, zal, zam, Nat.reduceAdd, Nat.reduceLeDiff, zbb, zas, zat, one, zau, zaw, zav, splice, zaj, zak, zab, zaa, ycs, yct, ycu, ycv, ycw, ycx, ycy, ycz, zan, zai, zax, zay, and_self, true_and, and_true, lenV, yda, Nat.le_refl, if_true, ydq, ydr, yds, ne_eq, not_true_eq_false, not_false_eq_true, ← decide_not, Decidable.not_not, ydt, ydu, ydz, ydv, ydw, List.drop_zero, eq_self, Bool.false_eq_true, List.getElem?_toArray, yea, yeb, List.nil_append, List.cons_append, Bool.false_and, Int.reduceEq, Int.reduceLT, Int.reduceLE, Int.reduceNe, zbc, zbb, yec, yed, yee, yef, ydx, ydy, g7, take12, list12]
              rw [← hFv]
              refine f128 fun H8 a8 z8 f8 si8 nl8 nw8 => ?_
              rw [hF] at si8 ⊢
              simp only at si8
              rw [hovz a8 z8]
              have f8 := f8.push (some (⟨true, [.int .i64 o.root, .bool o.opn, .string o.run, .int .i64 o.next.ver, .int .i64 o.next.first, .int .i64 o.next.til, .slice a8 o.next.ch.length z8]⟩ : Blk))
              have go7 := f8.gets go6
              have gr7 := f8.gets gr6
              have g8 := f8.gets g7
              have si9 := si7.frame0 f8
              have si8 := si8.push (some (⟨true, [.int .i64 o.root, .bool o.opn, .string o.run, .int .i64 o.next.ver, .int .i64 o.next.first, .int .i64 o.next.til, .slice a8 o.next.ch.length z8]⟩ : Blk))
              have g9 : hget (H8 ++ [some (⟨true, [.int .i64 o.root, .bool o.opn, .string o.run, .int .i64 o.next.ver, .int .i64 o.next.first, .int .i64 o.next.til, .slice a8 o.next.ch.length z8]⟩ : Blk)]) H8.length = some (⟨true, [.int .i64 o.root, .bool o.opn, .string o.run, .int .i64 o.next.ver, .int .i64 o.next.first, .int .i64 o.next.til, .slice a8 o.next.ch.length z8]⟩ : Blk) := ydu
              simp only [↓yaa, ↓yab, ↓yac, ↓yad, ↓yae, ↓yaf, ↓yag, ↓yah, ↓yai, ↓ydb, ↓ydc, ↓ydd, ↓yde, ↓ydf, ↓ydg, ↓yao, ↓yap, ↓ydh, ↓ydi, ↓ydj, ↓ydk, ↓ydl, ↓ydm, ↓ydn, ↓ydo, ↓ydp, ↓yax, yay, yaz, yba, ybb, ybc, ybd, ybe, ybf, ybg, ybh, ybi, ybj, ybk, ybl, ybm, ybn, ybo, ybp, ybq, ybr, ybs, ybt, ybu, ybv, ares, tup, ybw, ybx, yby, argsE, dval, aop, ev, evs, evo, evp, fillL, addrOf, intOf?, ybz, yca, ycb, ycc, ycd, yce, ycf, zah, zag, reduceIte, Nat.reduceEqDiff, ycg, ych, yci, ycj, yck, ycl, ycm, ycn, yco, ycp, ycq, ycr, zap, zao, reduceCtorEq, zbb, zbc, zba, zaz, Nat.reduceAdd, Nat.reduceMul, zaq, zar, eqPtr, zae, zaf, zab, zaa, zac, zad, hload, hstore, zal, zam, Nat.reduceAdd, Nat.reduceLeDiff, zbb, zas, zat, one, zau, zaw, zav, splice, zaj, zak, zab, zaa, ycs, yct, ycu, ycv, ycw, ycx, ycy, ycz, zan, zai, zax, zay, and_self, true_and, and_true, lenV, yda, Nat.le_refl, if_true, ydq, ydr, yds, ne_eq, not_true_eq_false, not_false_eq_true, ← decide_not, Decidable.not_not, ydt, ydu, ydz, ydv, ydw, List.drop_zero, eq_self, Bool.false_eq_true, List.getElem?_toArray, yea, yeb, List.nil_append, List.cons_append, Bool.false_and, Int.reduceEq, Int.reduceLT, Int.reduceLE, Int.reduceNe, zbc, zbb, yec, yed, yee, yef, ydx, ydy, s7, t7, list7]
              generalize H8 ++ [some (⟨true, [.int .i64 o.root, .bool o.opn, .string o.run, .int .i64 o.next.ver, .int .i64 o.next.first, .int .i64 o.next.til, .slice a8 o.next.ch.length z8]⟩ : Blk)] = G8 at *
              simp only [↓yaa, ↓yab, ↓yac, ↓yad, ↓yae, ↓yaf, ↓yag, ↓yah, ↓yai, ↓ydb, ↓ydc, ↓ydd, ↓yde, ↓ydf, ↓ydg, ↓yao, ↓yap, ↓ydh, ↓ydi, ↓ydj, ↓ydk, ↓ydl, ↓ydm, ↓ydn, ↓ydo, ↓ydp, ↓yax, yay, yaz, yba, ybb, ybc, ybd, ybe, ybf, ybg, ybh, ybi, ybj, ybk, ybl, ybm, ybn, ybo, ybp, ybq, ybr, ybs, ybt, ybu, ybv, ares, tup, ybw, ybx, yby, argsE, dval, aop, ev, evs, evo, evp, fillL, addrOf, intOf?, ybz, yca, ycb, ycc, ycd, yce, ycf, zah, zag, reduceIte, Nat.reduceEqDiff, ycg, ych, yci, ycj, yck, ycl, ycm, ycn, yco, ycp, ycq, ycr, zap, zao, reduceCtorEq, zbb, zbc, zba, zaz, Nat.reduceAdd, Nat.reduceMul, zaq, zar, eqPtr, zae, zaf, zab, zaa, zac, zad, hload, hstore, zal, zam, Nat.reduceAdd, Nat.reduceLeDiff, zbb, zas, zat, one, zau, zaw, zav, splice, zaj, zak, zab, zaa, ycs, yct, ycu, ycv, ycw, ycx, ycy, ycz, zan, zai, zax, zay, and_self, true_and, and_true, lenV, yda, Nat.le_refl, if_true, ydq, ydr, yds, ne_eq, not_true_eq_false, not_false_eq_true, ← decide_not, Decidable.not_not, ydt, ydu, ydz, ydv, ydw, List.drop_zero, eq_self, Bool.false_eq_true, List.getElem?_toArray, yea, yeb, List.nil_append, List.cons_append, Bool.false_and, Int.reduceEq, Int.reduceLT, Int.reduceLE, Int.reduceNe, zbc, zbb, yec, yed, yee, yef, ydx, ydy, s7, t7, list7, go7, g9]
              rw [← hov, ← hovz a8 z8]
              refine f126 si8 si9 hl fun H9 f9 => ?_
              have gr8 := f9.gets gr7
              have g10 := f9.gets g8
              simp only [↓yaa, ↓yab, ↓yac, ↓yad, ↓yae, ↓yaf, ↓yag, ↓yah, ↓yai, ↓ydb, ↓ydc, ↓ydd, ↓yde, ↓ydf, ↓ydg, ↓yao, ↓yap, ↓ydh, ↓ydi, ↓ydj, ↓ydk, ↓ydl, ↓ydm, ↓ydn, ↓ydo, ↓ydp, ↓yax, yay, yaz, yba, ybb, ybc, ybd, ybe, ybf, ybg, ybh, ybi, ybj, ybk, ybl, ybm, ybn, ybo, ybp, ybq, ybr, ybs, ybt, ybu, ybv, ares, tup, ybw, ybx, yby, argsE, dval, aop, ev, evs, evo, evp, fillL, addrOf, intOf?, ybz, yca, ycb, ycc, ycd, yce, ycf, zah, zag, reduceIte, Nat.reduceEqDiff, ycg, ych, yci, ycj, yck, ycl, ycm, ycn, yco, ycp, ycq, ycr, zap, zao, reduceCtorEq, zbb, zbc, zba, zaz, Nat.reduceAdd, Nat.reduceMul, zaq, zar, eqPtr, zae, zaf, zab, zaa, zac, zad, hload, hstore, zal, zam, Nat.reduceAdd, Nat.reduceLeDiff, zbb, zas, zat, one, zau, zaw, zav, splice, zaj, zak, zab, zaa, ycs, yct, ycu, ycv, ycw, ycx, ycy, ycz, zan, zai, zax, zay, and_self, true_and, and_true, lenV, yda, Nat.le_refl, if_true, ydq, ydr, yds, ne_eq, not_true_eq_false, not_false_eq_true, ← decide_not, Decidable.not_not, ydt, ydu, ydz, ydv, ydw, List.drop_zero, eq_self, Bool.false_eq_true, List.getElem?_toArray, yea, yeb, List.nil_append, List.cons_append, Bool.false_and, Int.reduceEq, Int.reduceLT, Int.reduceLE, Int.reduceNe, zbc, zbb, yec, yed, yee, yef, ydx, ydy, heq, gr8, g10, List.take_succ_cons, List.take_zero, List.drop_succ_cons, one]
            · rw [if_neg c2]
              simp only [↓yaa, ↓yab, ↓yac, ↓yad, ↓yae, ↓yaf, ↓yag, ↓yah, ↓yai, ↓ydb, ↓ydc, ↓ydd, ↓yde, ↓ydf, ↓ydg, ↓yao, ↓yap, ↓ydh, ↓ydi, ↓ydj, ↓ydk, ↓ydl, ↓ydm, ↓ydn, ↓ydo, ↓ydp, ↓yax, yay, yaz, yba, ybb, ybc, ybd, ybe, ybf, ybg, ybh, ybi, ybj, ybk, ybl, ybm, ybn, ybo, ybp, ybq, ybr, ybs, ybt, ybu, ybv, ares, tup, ybw, ybx, yby, argsE, dval, aop, ev, evs, evo, evp, fillL, addrOf, intOf?, ybz, yca, ycb, ycc, ycd, yce, ycf, zah, zag, reduceIte, Nat.reduceEqDiff, ycg, ych, yci, ycj, yck, ycl, ycm, ycn, yco, ycp, ycq, ycr, zap, zao, reduceCtorEq, zbb, zbc, zba, zaz, Nat.reduceAdd, Nat.reduceMul, zaq, zar, eqPtr, zae, zaf, zab, zaa, zac, zad, hload, hstore, zal, zam, Nat.reduceAdd, Nat.reduceLeDiff, zbb, zas, zat, one, zau, zaw, zav, splice, zaj, zak, zab, zaa, ycs, yct, ycu, ycv, ycw, ycx, ycy, ycz, zan, zai, zax, zay, and_self, true_and, and_true, lenV, yda, Nat.le_refl, if_true, ydq, ydr, yds, ne_eq, not_true_eq_false, not_false_eq_true, ← decide_not, Decidable.not_not, ydt, ydu, ydz, ydv, ydw, List.drop_zero, eq_self, Bool.false_eq_true, List.getElem?_toArray, yea, yeb, List.nil_append, List.cons_append, Bool.false_and, Int.reduceEq, Int.reduceLT, Int.reduceLE, Int.reduceNe, zbc, zbb, yec, yed, yee, yef, ydx, ydy, zeroFr, Fr.v, size12, take12, list12]
        · have e1 : o.enc.2 = o.err := (enc_err o).1
          have e2 : o.enc.1 = ⟨#[]⟩ := (enc_err o).2 (by rw [e1]; exact he)
          simp only [↓yaa, ↓yab, ↓yac, ↓yad, ↓yae, ↓yaf, ↓yag, ↓yah, ↓yai, ↓ydb, ↓ydc, ↓ydd, ↓yde, ↓ydf, ↓ydg, ↓yao, ↓yap, ↓ydh, ↓ydi, ↓ydj, ↓ydk, ↓ydl, ↓ydm, ↓ydn, ↓ydo, ↓ydp, ↓yax, yay, yaz, yba, ybb, ybc, ybd, ybe, ybf, ybg, ybh, ybi, ybj, ybk, ybl, ybm, ybn, ybo, ybp, ybq, ybr, ybs, ybt, ybu, ybv, ares, tup, ybw, ybx, yby, argsE, dval, aop, ev, evs, evo, evp, fillL, addrOf, intOf?, ybz, yca, ycb, ycc, ycd, yce, ycf, zah, zag, reduceIte, Nat.reduceEqDiff, ycg, ych, yci, ycj, yck, ycl, ycm, ycn, yco, ycp, ycq, ycr, zap, zao, reduceCtorEq, zbb, zbc, zba, zaz, Nat.reduceAdd, Nat.reduceMul, zaq, zar, eqPtr, zae, zaf, zab, zaa, zac, zad, hload, hstore, zal, zam, Nat.reduceAdd, Nat.reduceLeDiff, zbb, zas, zat, one, zau, zaw, zav, splice, zaj, zak, zab, zaa, ycs, yct, ycu, ycv, ycw, ycx, ycy, ycz, zan, zai, zax, zay, and_self, true_and, and_true, lenV, yda, Nat.le_refl, if_true, ydq, ydr, yds, ne_eq, not_true_eq_false, not_false_eq_true, ← decide_not, Decidable.not_not, ydt, ydu, ydz, ydv, ydw, List.drop_zero, eq_self, Bool.false_eq_true, List.getElem?_toArray, yea, yeb, List.nil_append, List.cons_append, Bool.false_and, Int.reduceEq, Int.reduceLT, Int.reduceLE, Int.reduceNe, zbc, zbb, yec, yed, yee, yef, ydx, ydy, e1, e2, he, go2, t7, list7]
          rw [← hov]
          refine f113 si2 hl fun H4 f4 => ?_
          simp only [↓yaa, ↓yab, ↓yac, ↓yad, ↓yae, ↓yaf, ↓yag, ↓yah, ↓yai, ↓ydb, ↓ydc, ↓ydd, ↓yde, ↓ydf, ↓ydg, ↓yao, ↓yap, ↓ydh, ↓ydi, ↓ydj, ↓ydk, ↓ydl, ↓ydm, ↓ydn, ↓ydo, ↓ydp, ↓yax, yay, yaz, yba, ybb, ybc, ybd, ybe, ybf, ybg, ybh, ybi, ybj, ybk, ybl, ybm, ybn, ybo, ybp, ybq, ybr, ybs, ybt, ybu, ybv, ares, tup, ybw, ybx, yby, argsE, dval, aop, ev, evs, evo, evp, fillL, addrOf, intOf?, ybz, yca, ycb, ycc, ycd, yce, ycf, zah, zag, reduceIte, Nat.reduceEqDiff, ycg, ych, yci, ycj, yck, ycl, ycm, ycn, yco, ycp, ycq, ycr, zap, zao, reduceCtorEq, zbb, zbc, zba, zaz, Nat.reduceAdd, Nat.reduceMul, zaq, zar, eqPtr, zae, zaf, zab, zaa, zac, zad, hload, hstore, zal, zam, Nat.reduceAdd, Nat.reduceLeDiff, zbb, zas, zat, one, zau, zaw, zav, splice, zaj, zak, zab, zaa, ycs, yct, ycu, ycv, ycw, ycx, ycy, ycz, zan, zai, zax, zay, and_self, true_and, and_true, lenV, yda, Nat.le_refl, if_true, ydq, ydr, yds, ne_eq, not_true_eq_false, not_false_eq_true, ← decide_not, Decidable.not_not, ydt, ydu, ydz, ydv, ydw, List.drop_zero, eq_self, Bool.false_eq_true, List.getElem?_toArray, yea, yeb, List.nil_append, List.cons_append, Bool.false_and, Int.reduceEq, Int.reduceLT, Int.reduceLE, Int.reduceNe, zbc, zbb, yec, yed, yee, yef, ydx, ydy, binV_strEq]
  · simp only [↓yaa, ↓yab, ↓yac, ↓yad, ↓yae, ↓yaf, ↓yag, ↓yah, ↓yai, ↓ydb, ↓ydc, ↓ydd, ↓yde, ↓ydf, ↓ydg, ↓yao, ↓yap, ↓ydh, ↓ydi, ↓ydj, ↓ydk, ↓ydl, ↓ydm, ↓ydn, ↓ydo, ↓ydp, ↓yax, yay, yaz, yba, ybb, ybc, ybd, ybe, ybf, ybg, ybh, ybi, ybj, ybk, ybl, ybm, ybn, ybo, ybp, ybq, ybr, ybs, ybt, ybu, ybv, ares, tup, ybw, ybx, yby, argsE, dval, aop, ev, evs, evo, evp, fillL, addrOf, intOf?, ybz, yca, ycb, ycc, ycd, yce, ycf, zah, zag, reduceIte, Nat.reduceEqDiff, ycg, ych, yci, ycj, yck, ycl, ycm, ycn, yco, ycp, ycq, ycr, zap, zao, reduceCtorEq, zbb, zbc, zba, zaz, Nat.reduceAdd, Nat.reduceMul, zaq, zar, eqPtr, zae, zaf, zab, zaa, zac, zad, hload, hstore, zal, zam, Nat.reduceAdd, Nat.reduceLeDiff, zbb, zas, zat, one, zau, zaw, zav, splice, zaj, zak, zab, zaa, ycs, yct, ycu, ycv, ycw, ycx, ycy, ycz, zan, zai, zax, zay, and_self, true_and, and_true, lenV, yda, Nat.le_refl, if_true, ydq, ydr, yds, ne_eq, not_true_eq_false, not_false_eq_true, ← decide_not, Decidable.not_not, ydt, ydu, ydz, ydv, ydw, List.drop_zero, eq_self, Bool.false_eq_true, List.getElem?_toArray, yea, yeb, List.nil_append, List.cons_append, Bool.false_and, Int.reduceEq, Int.reduceLT, Int.reduceLE, Int.reduceNe, zbc, zbb, yec, yed, yee, yef, ydx, ydy, go, t7, list7, hfew, h1]

end Go.Proofs.Ytejcabdejoameaa.AI

/- BeaconBack holds, whatever the input. -/
set_option linter.unusedVariables false
namespace Go.Proofs.Ytejcabdejoameaa
open Go.ChangeShapes Go.WideShapes Go.ChangeAt Go.RowKit

set_option maxRecDepth 100000 in
theorem beaconBack_lifted (os : Os) (started : os.Started) (H : Type) (enc : TypeId × Value → H) :
    ReturnsInHanded {} Try.checked os 9 .any (Rows.beaconBackSpec.pre6 enc Try.prog Try.f9 Rows.beaconBackRow.domain false) (Rows.beaconBackSpec.post enc Try.prog Try.f9 false true false false) := by
  refine returnsInHanded_of_change (C := Try.checked) AI.own started (by kernel_rfl) Try.func9
    (ChangeSpec.witness6 (enc := enc) (C := Try.checked) false ⟨#[], #[.agg #[.int .i64 0, .bool false, .string ⟨#[]⟩, .int .i64 0, .int .i64 0, .int .i64 0, .slice none 0 0], .string ⟨#[]⟩, .agg #[.int .i64 0, .int .i64 0, .int .i64 0, .int .i64 0, .int .i64 0, .int .i64 0], .int .i64 0], []⟩ 8 (by kernel_rfl) (by kernel_rfl) (by kernel_rfl) (by kernel_rfl)) ?_
  intro W base args ds gs before hval0 hW hcnd _
  have hval : ∀ (j : Nat) t v, Try.f9.params[j]? = some t → args[j]? = some v → Value.okWide Try.prog W .any base t v := hval0
  have hW' := hW
  obtain ⟨p, q, hA0, hV, rfl, hfz, hnd⟩ := hW
  have hA : DataW.TrodAll enc Try.prog W 0 (fun _ => true) true Try.f9.params.toList args.toList ds p := hA0
  rw [Try.params9] at hA hval
  obtain ⟨args⟩ := args
  have hA : DataW.TrodAll enc Try.prog W 0 (fun _ => true) true _ args ds p := hA
  obtain ⟨v0, args0, d0, ds0, p0, q0, rfl, rfl, rfl, h0, t0⟩ := trodAll_cons hA
  obtain ⟨v1, args1, d1, ds1, p1, q1, rfl, rfl, rfl, h1, t1⟩ := trodAll_cons t0
  obtain ⟨v2, args2, d2, ds2, p2, q2, rfl, rfl, rfl, h2, t2⟩ := trodAll_cons t1
  obtain ⟨v3, args3, d3, ds3, p3, q3, rfl, rfl, rfl, h3, t3⟩ := trodAll_cons t2
  obtain ⟨rfl, rfl, rfl⟩ := trodAll_nil t3
  obtain ⟨rfl, rfl⟩ := trodVars_none hV
  obtain ⟨cs0, rfl, hl0, hc0⟩ := AI.arg_agg Try.underlying26 (hval 0 26 v0 rfl rfl) h0 (d := 9) (ls := AI.offLeaves) (by kernel_rfl)
  obtain ⟨x0, a0, z0, B0, k0, r0, e0, H0, R0, s0, ok0, n0⟩ := AI.off_arg hl0 hc0 (AI.HR0 W) AI.ro0
  obtain ⟨x1, rfl, rfl, rfl, ok1⟩ := Go.ChangeMaps.open_string Try.underlying9 (hval 1 9 v1 rfl rfl) h1
  obtain ⟨cs2, rfl, hl2, hc2⟩ := AI.arg_agg Try.underlying60 (hval 2 60 v2 rfl rfl) h2 (d := 9) (ls := AI.rkLeaves) (by kernel_rfl)
  obtain ⟨x2, rfl, ok2⟩ := AI.rk_open hl2 hc2
  obtain ⟨x3, rfl, rfl, rfl, ok3⟩ := open_int Try.underlying3 (hval 3 3 v3 rfl rfl) h3
  clear hA0 hval0
  have hc := AI.law_calls (k := 107) (AI.bback (s := x1) (s0) ok0 n0 ok2 (AI.i64_wf ok3)) H0 R0 (.cons r0 (.cons (.atom _ rfl) (.cons (AI.rk_vr x2) (.cons (.atom _ rfl) .nil))))
  refine hc.mono fun e W' ⟨he, hb⟩ => ?_
  subst he
  exact ⟨_, rfl, AI.law_post AI.laidOut hW' rfl rfl (by rw [Try.params9]; intro t ht; simp at ht; rcases ht with rfl | rfl | rfl | rfl <;> exact ⟨by kernel_rfl, of_decide_eq_true (by kernel_rfl)⟩) hb
    (fun _ _ _ => trodAll_mk1 (shut_bool Try.underlying4 _)) (ok_one (by kernel_rfl) rfl (okWide_bool_mk Try.underlying4 _))⟩

theorem beaconBack_holds : Rows.BeaconBackSaid :=
  OpenClaim.holds_of_wide 9 Try.f9 rfl rfl rfl rfl rfl rfl rfl ⟨rfl, rfl, rfl, rfl, rfl⟩ rfl rfl rfl rfl rfl (by kernel_rfl) Try.func9 (by kernel_rfl)
    (of_decide_eq_true (by kernel_rfl)) (by unfold Func.isWrapper; first | (rw [if_pos (by decide +kernel)]; kernel_rfl) | (rw [if_neg (by decide +kernel)]; exact ⟨rfl, rfl⟩))
    (fun os started H enc _ => beaconBack_lifted os started H enc)

end Go.Proofs.Ytejcabdejoameaa

