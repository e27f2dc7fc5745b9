/- What the laws over lists of fields share. -/
import Derived.Test.YtlbhbjaimcinbaaM3
import Derived.Test.YtlbhbjaimcinbaaBAwake
set_option linter.unusedSimpArgs false
namespace Go.Proofs.Ytlbhbjaimcinbaa.AI
open Go

section
variable {tbl : Nat → Option AFn} {e : Env} {H : Heap} {R : Env → Heap → Prop}
theorem RO_u {d : Option Nat} {t : Nat} {b : Bool} {op : AOp} {r : List AOper} (h : lk e t = some undef) : AO tbl (⟨d, some (t, b), op⟩ :: r) e H R = AO tbl r (putE e d undef) H R := by
  unfold AO
  simp only [aops, step, want, h, undef, Option.bind_some]
theorem RD_u {d : Option Nat} {t : Nat} {b : Bool} {op : AOp} {back : Nat} {r : List DOper} {hist : List Heap} (h : lk e t = some undef) : AOD tbl (⟨⟨d, some (t, b), op⟩, false, back⟩ :: r) hist e H R = AOD tbl r hist (putE e d undef) H R := by
  unfold AOD
  simp only [aopsD, step, want, h, undef, Option.bind_some, okBack]
  simp
end

theorem binV_sne (s : ByteArray) : binV .neq (.string s) (.string s) = some (.bool false) := by
  simp only [binV, Op.stringOp]; simp [bne]; rfl

/-- A list's block stays below N. -/
def LB (H : Heap) (b : Option Addr) (z : Nat) (l : List Fld) (N : Nat) : Prop := ∀ (i : Nat) (f : Fld), l[i]? = some f → ∃ q, b = some ⟨q, 0, none⟩ ∧ z = 4 ∧ q < N ∧ hget H q = some ⟨false, flat l⟩
theorem LB.frame {H H' : Heap} {b : Option Addr} {z : Nat} {l : List Fld} {N : Nat} (h : LB H b z l N) {O : List Nat} (f : Frm O H H') (hO : ∀ i ∈ O, N ≤ i) : LB H' b z l N := by
  intro i x hx
  obtain ⟨q, h1, h2, h3, h4⟩ := h i x hx
  refine ⟨q, h1, h2, h3, ?_⟩
  rw [f.2 q (hget_lt h4) (fun hm => by have := hO q hm; omega)]; exact h4
theorem LA.lb {H : Heap} {v : Value} {l : List Fld} (h : LA H v l) : ∃ b z, v = .slice b l.length z ∧ LB H b z l H.length := by
  rcases h with ⟨rfl, rfl⟩ | ⟨b, rfl, hb⟩
  · exact ⟨none, 0, rfl, fun i f hi => by simp at hi⟩
  · refine ⟨_, _, rfl, fun i f hi => ⟨b, rfl, rfl, ?_⟩⟩
    rcases hb with rfl | hb
    · simp at hi
    · exact ⟨hget_lt hb, hb⟩

/-- Behind an error nothing is read. -/
theorem field_err {r : RS} (h : r.err ≠ 0) (right : Bool) (w : Int) : r.field right w = (0, r) := by simp [RS.field, h]
theorem read_err {r : RS} (h : r.err ≠ 0) (f : Fld) : (r.read f).2 = r ∧ (r.read f).1.kind = f.kind ∧ (0 ≤ f.kind → f.kind ≤ 3 → (r.read f).1.n = 0 ∧ (r.read f).1.s = ⟨#[]⟩) := by
  unfold RS.read
  split
  · simp [RS.unsigned, field_err h]
  · split
    · simp [RS.signed, field_err h, h]
    · split
      · simp [RS.flag, field_err h]
      · split
        · simp [RS.text, field_err h, h]
        · rename_i h0 h1 h2 h3
          exact ⟨rfl, rfl, fun a b => by omega⟩
theorem unsigned_ok {r : RS} (h : r.Ok) (w : Int) : (r.unsigned w).2.Ok := RS.field_ok h fun hr => by simp at hr; omega
theorem signed_ok {r : RS} (h : r.Ok) (w : Int) : (r.signed w).2.Ok := RS.field_ok h fun hr => by simp at hr; omega
theorem flag_ok {r : RS} (h : r.Ok) : r.flag.2.Ok := RS.field_ok h fun hr => by omega
theorem text_ok {r : RS} (h : r.Ok) (w : Int) : (r.text w).2.Ok := by
  have h1 := RS.field_ok h (right := lim w) (w := (wd w : Int)) (fun _ => by omega)
  unfold RS.text
  generalize r.field (lim w) (wd w) = x at *
  obtain ⟨n, r'⟩ := x
  simp only at h1 ⊢
  split
  · exact h1
  · split
    · exact ⟨h1.at_le, h1.size⟩
    · split
      · exact ⟨h1.at_le, h1.size⟩
      · rename_i h2 h3 h4
        simp only [RS.left, if_pos (Classical.not_not.1 h2)] at h4
        have := h1.at_le
        exact ⟨by simp only; omega, h1.size⟩
theorem read_ok {r : RS} (h : r.Ok) (f : Fld) : (r.read f).2.Ok := by
  unfold RS.read
  split
  · exact unsigned_ok h _
  · split
    · exact signed_ok h _
    · split
      · exact flag_ok h
      · split
        · exact text_ok h _
        · exact h

end Go.Proofs.Ytlbhbjaimcinbaa.AI
