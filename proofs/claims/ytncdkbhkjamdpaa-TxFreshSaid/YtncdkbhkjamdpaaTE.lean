/- Objects that are one: Go's == of them; lists of them. -/
import Derived.Test.YtncdkbhkjamdpaaT3
namespace Go.Proofs.Ytncdkbhkjamdpaa
open Go.RowKit Go.Maps

theorem eqn55 (n : Nat) (a b c d : Int) (q : Bool) (e t z r : Int) (w : World) : (Op.equalIn (n + 3) 55 (.agg #[.int .i64 a, .int .i64 b, .int .i64 c, .int .i64 d, .bool q, .int .i64 e, .int .i64 t, .int .i64 z, .int .u64 r]) (.agg #[.int .i64 a, .int .i64 b, .int .i64 c, .int .i64 d, .bool q, .int .i64 e, .int .i64 t, .int .i64 z, .int .u64 r])).run Try.prog w = .ok true w := by
  rw [run_equalIn_struct (P := Try.prog) w (n + 2) 55 _ _ (by kernel_rfl) (by kernel_rfl)]
  have hu3 := Try.underlying3
  simp [Program.fieldsOf, Try.underlying55, Op.eqFields, part, go_sem]
theorem eql55 (f : Ob) (w : World) : (binOp .eql 55 (.agg #[.int .i64 f.ch, .int .i64 f.ix, .int .i64 f.cl, .int .i64 f.mn, .bool f.fr, .int .i64 f.at_, .int .i64 f.ty, .int .i64 f.sz, .int .u64 f.sr]) (.agg #[.int .i64 f.ch, .int .i64 f.ix, .int .i64 f.cl, .int .i64 f.mn, .bool f.fr, .int .i64 f.at_, .int .i64 f.ty, .int .i64 f.sz, .int .u64 f.sr])).run Try.prog w = .ok (.bool true) w := by
  simp only [binOp]
  simp [Op.equal, Op.maxDepth, eqn55 9997]
theorem neq55 (f : Ob) (w : World) : (binOp .neq 55 (.agg #[.int .i64 f.ch, .int .i64 f.ix, .int .i64 f.cl, .int .i64 f.mn, .bool f.fr, .int .i64 f.at_, .int .i64 f.ty, .int .i64 f.sz, .int .u64 f.sr]) (.agg #[.int .i64 f.ch, .int .i64 f.ix, .int .i64 f.cl, .int .i64 f.mn, .bool f.fr, .int .i64 f.at_, .int .i64 f.ty, .int .i64 f.sz, .int .u64 f.sr])).run Try.prog w = .ok (.bool false) w := by
  simp only [binOp]
  simp [Op.equal, Op.maxDepth, eqn55 9997]

/-! ### fresh -/
set_option maxHeartbeats 2000000 in
set_option maxRecDepth 100000 in
theorem fresh_c (x : List Ob) (v u : Value) (w : World) (hv : RdF w v x) (hu : RdF w u x) :
    Calls Try.prog 98 #[v, u] w fun e w' => e = .returned (.bool true) ∧ Below w.heap.size w w' := by
  have HV := hid_ hv
  have HU := hid_ hu
  obtain ⟨A, c, rfl, hl, hl', _⟩ := hv
  obtain ⟨A2, c2, rfl, hl2, hl2', _⟩ := hu
  go_enter Try.func98, Try.ntmps98
  go_wp2
  go_loopw [5] (fun i wr => ∃ k : Nat, k ≤ x.length ∧ i = .int .i64 k ∧ Below w.heap.size w wr) (fun i _ => x.length - (intOf i).toNat)
  case atStart => exact ⟨0, Nat.zero_le _, rfl, Below.refl _ _⟩
  case round =>
    obtain ⟨k, hk, rfl, hB⟩ := hrel
    by_cases hlt : k < x.length
    · obtain ⟨b, o, rfl, p0, p1, p2, p3, p4, p5, p6, p7, p8⟩ := RdF.at HV.out hB hlt
      obtain ⟨b2, o2, rfl, q0, q1, q2, q3, q4, q5, q6, q7, q8⟩ := RdF.at HU.out hB hlt
      have HN := hid_ hB
      generalize x[k] = f at *
      have x0 := Ext.cell p0
      have y0 := Ext.cell q0
      have x1 := Ext.cell p1
      have y1 := Ext.cell q1
      have x2 := Ext.cell p2
      have y2 := Ext.cell q2
      have x3 := Ext.cell p3
      have y3 := Ext.cell q3
      have x4 := Ext.cell p4
      have y4 := Ext.cell q4
      have x5 := Ext.cell p5
      have y5 := Ext.cell q5
      have x6 := Ext.cell p6
      have y6 := Ext.cell q6
      have x7 := Ext.cell p7
      have y7 := Ext.cell q7
      have x8 := Ext.cell p8
      have y8 := Ext.cell q8
      have hne : ∀ w, (binOp .neq 55 (.agg #[.int .i64 f.ch, .int .i64 f.ix, .int .i64 f.cl, .int .i64 f.mn, .bool f.fr, .int .i64 f.at_, .int .i64 f.ty, .int .i64 f.sz, .int .u64 f.sr]) (.agg #[.int .i64 f.ch, .int .i64 f.ix, .int .i64 f.cl, .int .i64 f.mn, .bool f.fr, .int .i64 f.at_, .int .i64 f.ty, .int .i64 f.sz, .int .u64 f.sr])).run Try.prog w = .ok (.bool false) w := neq55 f
      go_wp2
      refine wp_region_ext (by kernel_rfl) (by kernel_rfl) ?_
      repeat (first | go_big_quiet_skip | (go_big_quiet_want; go_big_quiet_op; first | go_big_quiet_on | (apply Exists.intro; refine ⟨fun _ => ?_, ?_⟩; (focus (fail)); go_big_quiet_on)))
      refine wpQuiet_nil ?_
      intro wq hw'
      obtain ⟨pq, rfl⟩ := hw'
      go_wp2
      go_roundw
      case rel => exact ⟨k + 1, by omega, by go_num, btr HN.out pq.h⟩
      case measure => simp [intOf]; omega
    · go_wp2
      go_ret
      exact ⟨rfl, hB⟩

end Go.Proofs.Ytncdkbhkjamdpaa
