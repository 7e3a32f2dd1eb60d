/- Arguments of a statement: lists of operations of chapter 20, an object. -/
import Derived.Test.YtncdkbhkjamdpaaR1
import Derived.Test.YtncdkbhkjamdpaaTO
import Derived.Test.YtncdkbhkjamdpaaT0
namespace Go.Proofs.Ytncdkbhkjamdpaa
open Go.ChangeShapes Go.WideShapes Go.ChangeAt Go.RowKit Go.Deep

section
variable {H : Type} {enc : TypeId × Value → H} {base : Nat} {spare : Nat → Bool} {held : Bool}
set_option maxRecDepth 100000
theorem dec_place (w : World) : ∀ n cs y, DataW.trod enc Try.prog w base spare held n 50 cs = some y → cs.length = 5 → ∃ (a b c d : Int) (q : Bool), cs = [.int .i64 a, .int .i64 b, .int .i64 c, .int .i64 d, .bool q] := by
  intro n cs y h hl
  match cs, hl with
  | [a0, a1, a2, a3, a4], _ =>
    have hc3 : Try.prog.cellsOf 3 = 1 := by kernel_rfl
    have hc4 : Try.prog.cellsOf 4 = 1 := by kernel_rfl
    obtain ⟨ys, m, hm, hy, hlen, hyl, hf⟩ := DataW.trod_struct Try.underlying50 h
    have h0 := hf 0 _ rfl
    have h1 := hf 1 _ rfl
    have h2 := hf 2 _ rfl
    have h3 := hf 3 _ rfl
    have h4 := hf 4 _ rfl
    have hyl' : ys.length = 5 := hyl
    change DataW.trod enc Try.prog w base spare held m 3 (([a0, a1, a2, a3, a4].drop 0).take (Try.prog.cellsOf 3)) = ys[0]? at h0
    change DataW.trod enc Try.prog w base spare held m 3 (([a0, a1, a2, a3, a4].drop 1).take (Try.prog.cellsOf 3)) = ys[1]? at h1
    change DataW.trod enc Try.prog w base spare held m 3 (([a0, a1, a2, a3, a4].drop 2).take (Try.prog.cellsOf 3)) = ys[2]? at h2
    change DataW.trod enc Try.prog w base spare held m 3 (([a0, a1, a2, a3, a4].drop 3).take (Try.prog.cellsOf 3)) = ys[3]? at h3
    change DataW.trod enc Try.prog w base spare held m 4 (([a0, a1, a2, a3, a4].drop 4).take (Try.prog.cellsOf 4)) = ys[4]? at h4
    rw [hc3] at h0 h1 h2 h3
    rw [hc4] at h4
    rw [List.getElem?_eq_getElem (by omega)] at h0 h1 h2 h3 h4
    obtain ⟨x0, e0, _, _⟩ := DataW.trod_int Try.underlying3 h0
    simp at e0
    subst e0
    obtain ⟨x1, e1, _, _⟩ := DataW.trod_int Try.underlying3 h1
    simp at e1
    subst e1
    obtain ⟨x2, e2, _, _⟩ := DataW.trod_int Try.underlying3 h2
    simp at e2
    subst e2
    obtain ⟨x3, e3, _, _⟩ := DataW.trod_int Try.underlying3 h3
    simp at e3
    subst e3
    obtain ⟨x4, e4, _⟩ := DataW.trod_bool Try.underlying4 h4
    simp at e4
    subst e4
    exact ⟨x0, x1, x2, x3, x4, rfl⟩
theorem dec_header (w : World) : ∀ n cs y, DataW.trod enc Try.prog w base spare held n 53 cs = some y → cs.length = 3 → ∃ a b c : Int, cs = [.int .i64 a, .int .i64 b, .int .u64 c] := by
  intro n cs y h hl
  match cs, hl with
  | [a0, a1, a2], _ =>
    have hc3 : Try.prog.cellsOf 3 = 1 := by kernel_rfl
    have hc51 : Try.prog.cellsOf 51 = 1 := by kernel_rfl
    obtain ⟨ys, m, hm, hy, hlen, hyl, hf⟩ := DataW.trod_struct Try.underlying53 h
    have h0 := hf 0 _ rfl
    have h1 := hf 1 _ rfl
    have h2 := hf 2 _ rfl
    have hyl' : ys.length = 3 := hyl
    change DataW.trod enc Try.prog w base spare held m 3 (([a0, a1, a2].drop 0).take (Try.prog.cellsOf 3)) = ys[0]? at h0
    change DataW.trod enc Try.prog w base spare held m 3 (([a0, a1, a2].drop 1).take (Try.prog.cellsOf 3)) = ys[1]? at h1
    change DataW.trod enc Try.prog w base spare held m 51 (([a0, a1, a2].drop 2).take (Try.prog.cellsOf 51)) = ys[2]? at h2
    rw [hc3] at h0 h1
    rw [hc51] at h2
    rw [List.getElem?_eq_getElem (by omega)] at h0 h1 h2
    obtain ⟨x0, e0, _, _⟩ := DataW.trod_int Try.underlying3 h0
    simp at e0
    subst e0
    obtain ⟨x1, e1, _, _⟩ := DataW.trod_int Try.underlying3 h1
    simp at e1
    subst e1
    obtain ⟨x2, e2, _, _⟩ := DataW.trod_int Try.underlying51 h2
    simp at e2
    subst e2
    exact ⟨x0, x1, x2, rfl⟩
theorem dec_ob (w : World) : ∀ n cs y, DataW.trod enc Try.prog w base spare held n 55 cs = some y → cs.length = 9 → ∃ x : Ob, True ∧ cs = x.enc := by
  intro n cs y h hl
  match cs, hl with
  | [a0, a1, a2, a3, a4, a5, a6, a7, a8], _ =>
    have hc3 : Try.prog.cellsOf 3 = 1 := by kernel_rfl
    have hc50 : Try.prog.cellsOf 50 = 5 := by kernel_rfl
    have hc53 : Try.prog.cellsOf 53 = 3 := by kernel_rfl
    obtain ⟨ys, m, hm, hy, hlen, hyl, hf⟩ := DataW.trod_struct Try.underlying55 h
    have h0 := hf 0 _ rfl
    have h1 := hf 1 _ rfl
    have h2 := hf 2 _ rfl
    have hyl' : ys.length = 3 := hyl
    change DataW.trod enc Try.prog w base spare held m 50 (([a0, a1, a2, a3, a4, a5, a6, a7, a8].drop 0).take (Try.prog.cellsOf 50)) = ys[0]? at h0
    change DataW.trod enc Try.prog w base spare held m 3 (([a0, a1, a2, a3, a4, a5, a6, a7, a8].drop 5).take (Try.prog.cellsOf 3)) = ys[1]? at h1
    change DataW.trod enc Try.prog w base spare held m 53 (([a0, a1, a2, a3, a4, a5, a6, a7, a8].drop 6).take (Try.prog.cellsOf 53)) = ys[2]? at h2
    rw [hc3] at h1
    rw [hc50] at h0
    rw [hc53] at h2
    rw [List.getElem?_eq_getElem (by omega)] at h0 h1 h2
    obtain ⟨p0, p1, p2, p3, p4, e0⟩ := dec_place w m _ _ h0 rfl
    simp at e0
    obtain ⟨rfl, rfl, rfl, rfl, rfl⟩ := e0
    obtain ⟨x1, e1, _, _⟩ := DataW.trod_int Try.underlying3 h1
    simp at e1
    subst e1
    obtain ⟨q0, q1, q2, e2⟩ := dec_header w m _ _ h2 rfl
    simp at e2
    obtain ⟨rfl, rfl, rfl⟩ := e2
    exact ⟨⟨p0, p1, p2, p3, p4, x1, q0, q1, q2⟩, trivial, rfl⟩
theorem dec_op20 (w : World) : ∀ n cs y, DataW.trod enc Try.prog w base spare held n 57 cs = some y → cs.length = 12 → ∃ x : O20, True ∧ cs = x.enc := by
  intro n cs y h hl
  match cs, hl with
  | [a0, a1, a2, a3, a4, a5, a6, a7, a8, a9, a10, a11], _ =>
    have hc5 : Try.prog.cellsOf 5 = 1 := by kernel_rfl
    have hc25 : Try.prog.cellsOf 25 = 2 := by kernel_rfl
    have hc55 : Try.prog.cellsOf 55 = 9 := by kernel_rfl
    obtain ⟨ys, m, hm, hy, hlen, hyl, hf⟩ := DataW.trod_struct Try.underlying57 h
    have h0 := hf 0 _ rfl
    have h1 := hf 1 _ rfl
    have h2 := hf 2 _ rfl
    have hyl' : ys.length = 3 := hyl
    change DataW.trod enc Try.prog w base spare held m 5 (([a0, a1, a2, a3, a4, a5, a6, a7, a8, a9, a10, a11].drop 0).take (Try.prog.cellsOf 5)) = ys[0]? at h0
    change DataW.trod enc Try.prog w base spare held m 25 (([a0, a1, a2, a3, a4, a5, a6, a7, a8, a9, a10, a11].drop 1).take (Try.prog.cellsOf 25)) = ys[1]? at h1
    change DataW.trod enc Try.prog w base spare held m 55 (([a0, a1, a2, a3, a4, a5, a6, a7, a8, a9, a10, a11].drop 3).take (Try.prog.cellsOf 55)) = ys[2]? at h2
    rw [hc5] at h0
    rw [hc25] at h1
    rw [hc55] at h2
    rw [List.getElem?_eq_getElem (by omega)] at h0 h1 h2
    obtain ⟨x0, e0, _, _⟩ := DataW.trod_int Try.underlying5 h0
    simp at e0
    subst e0
    obtain ⟨s, _, e1⟩ := dec_span w m _ _ h1 rfl
    simp [Sp.enc] at e1
    obtain ⟨rfl, rfl⟩ := e1
    obtain ⟨f, _, e2⟩ := dec_ob w m _ _ h2 rfl
    simp [Ob.enc] at e2
    obtain ⟨rfl, rfl, rfl, rfl, rfl, rfl, rfl, rfl, rfl⟩ := e2
    exact ⟨⟨x0, s, f⟩, trivial, rfl⟩
theorem open_ob (w : World) {r : Reach} {b0 : Nat} {v : Value} {d : DataW H} {ps : List MemPlace} (hv : Value.okWide Try.prog w r b0 55 v) (h : DataW.Trod enc Try.prog w base spare held 55 v d ps) :
    ∃ s : Ob, v = .agg #[.int .i64 s.ch, .int .i64 s.ix, .int .i64 s.cl, .int .i64 s.mn, .bool s.fr, .int .i64 s.at_, .int .i64 s.ty, .int .i64 s.sz, .int .u64 s.sr] ∧ True := by
  obtain ⟨cs, rfl, hc⟩ := okWide_struct Try.underlying55 hv
  obtain ⟨n, h⟩ := h
  have hc2 : Try.prog.cellsOf 55 = 9 := by kernel_rfl
  rw [hc2] at hc
  obtain ⟨x, _, e⟩ := dec_ob w n _ _ h (by simpa [Value.cells] using hc)
  refine ⟨x, ?_, trivial⟩
  have e' : cs.toList = x.enc := by simpa [Value.cells] using e
  have : cs = x.enc.toArray := by rw [← e']
  rw [this]
  rfl
end
end Go.Proofs.Ytncdkbhkjamdpaa
