/-
  umpiragetop.sameDia at one diagram twice.
-/
import Derived.Test.YtpokiglgjmcdoaaOf
import Derived.Laws.StructEq
set_option linter.unusedVariables false
set_option linter.unusedSimpArgs false
namespace Go.Proofs.Ytpokiglgjmcdoaa
open Go.ChangeShapes Go.WideShapes Go.ChangeAt Go.RowKit Go.BigFrame Go.Shelf Go.Maps
open Um

theorem eq_int (d : Nat) (u : World) (a : Int) : (Op.equalIn (d + 1) 3 (.int .i64 a) (.int .i64 a)).run Try.prog u = .ok true u := by
  simp [Op.equalIn, run_underlying Try.underlying3]
set_option maxRecDepth 100000 in
theorem eq_ch (u : World) (a b c : Int) : (Op.equal 136 (.agg #[.int .i64 a, .int .i64 b, .int .i64 c]) (.agg #[.int .i64 a, .int .i64 b, .int .i64 c])).run Try.prog u = .ok true u := by
  have g0 : (part 3 #[.int .i64 a, .int .i64 b, .int .i64 c] 0).run Try.prog u = .ok (.int .i64 a) u := by simp [part, isAgg, run_underlying Try.underlying3]
  have g1 : (part 3 #[.int .i64 a, .int .i64 b, .int .i64 c] 1).run Try.prog u = .ok (.int .i64 b) u := by simp [part, isAgg, run_underlying Try.underlying3]
  have g2 : (part 3 #[.int .i64 a, .int .i64 b, .int .i64 c] 2).run Try.prog u = .ok (.int .i64 c) u := by simp [part, isAgg, run_underlying Try.underlying3]
  have e := fun x => eq_int 9998 u x
  simp only [Nat.reduceAdd] at e
  unfold Op.equal Op.maxDepth
  rw [run_equalIn_struct u 9999 136 _ _ (by unfold Program.fieldsOf; rw [Try.underlying136]) Try.stoodInHeld136]
  unfold Program.fieldsOf
  rw [Try.underlying136]
  simp [Op.eqFields, g0, g1, g2, e]
theorem neq_ch (u : World) (a b c : Int) : (binOp .neq 136 (.agg #[.int .i64 a, .int .i64 b, .int .i64 c]) (.agg #[.int .i64 a, .int .i64 b, .int .i64 c])).run Try.prog u = .ok (.bool false) u := by
  have h := eq_ch u a b c
  simp [binOp, h, Result.andThen]

set_option maxHeartbeats 800000 in
set_option maxRecDepth 100000 in
theorem sameDia_any (cs : List Dia.Ch) (root : Nat) (hl : cs.length ≤ 4000) (w : World) (u1 u2 : Value) (hu1 : ChsAt (fun _ => True) w u1 cs) (hu2 : ChsAt (fun _ => True) w u2 cs) :
    Calls Try.prog 27 #[.agg #[u1, .int .i64 root], .agg #[u2, .int .i64 root]] w fun e w' => e = .returned (.bool true) ∧ Same w w' := by
  obtain ⟨ao, cap1, rfl, h1⟩ := hu1
  obtain ⟨bo, cap2, rfl, h2⟩ := hu2
  have H1 := Lib.hid h1
  have H2 := Lib.hid h2
  obtain ⟨n, hn⟩ : ∃ n, n = cs.length := ⟨_, rfl⟩
  have HN := Lib.hid hn
  rw [← hn] at hl
  rw [← hn]
  have hb0 := ((((Boxes.nil w).alloc (.cells #[.slice ao n cap1, .int .i64 (root : Int)] 45)).alloc (.cells #[.slice bo n cap2, .int .i64 (root : Int)] 45)))
  simp only [World.size_alloc] at hb0
  have HB0 := Lib.hid hb0
  clear h1 h2 hn hb0
  go_enter Try.func27, Try.ntmps27
  go_wp2
  go_loopw [5] (fun i wr => ∃ k : Nat, k ≤ n ∧ i = .int .i64 k ∧ Boxes w wr [(w.heap.size + 1, .cells #[.slice bo n cap2, .int .i64 (root : Int)] 45), (w.heap.size, .cells #[.slice ao n cap1, .int .i64 (root : Int)] 45)]) (fun i _ => n - (intOf i).toNat)
  case atStart => exact ⟨0, Nat.zero_le _, rfl, HB0.out⟩
  case round =>
    obtain ⟨k, hk, rfl, hB⟩ := hrel
    obtain ⟨a0, a1, _, _⟩ := cells2 (hB.at (i := w.heap.size) (o := .cells #[.slice ao n cap1, .int .i64 (root : Int)] 45) (by simp))
    obtain ⟨b0, b1, _, _⟩ := cells2 (hB.at (i := w.heap.size + 1) (o := .cells #[.slice bo n cap2, .int .i64 (root : Int)] 45) (by simp))
    by_cases hkn : k < n
    · obtain ⟨ch, hc⟩ : ∃ ch, cs[k]? = some ch := ⟨_, List.getElem?_eq_getElem (by rw [← HN.out]; omega)⟩
      obtain ⟨b, o, rfl, _, e0, e1, e2⟩ := H1.out k ch hc
      obtain ⟨b', o', rfl, _, g0, g1, g2⟩ := H2.out k ch hc
      have E0 := cell_ext (hB.1.cell_of trivial e0)
      have E1 := cell_ext (hB.1.cell_of trivial e1)
      have E2 := cell_ext (hB.1.cell_of trivial e2)
      have G0 := cell_ext (hB.1.cell_of trivial g0)
      have G1 := cell_ext (hB.1.cell_of trivial g1)
      have G2 := cell_ext (hB.1.cell_of trivial g2)
      have A0 := cell_ext a0
      have B0 := cell_ext b0
      have hneq := fun p => neq_ch (ext wr p) (ch.v : Int) (ch.lo : Int) (ch.hi : Int)
      have hk0 : (0 : Int) ≤ (k : Int) := by omega
      have hk1 : (k : Int) < (n : Int) := by omega
      have HB := Lib.hid hB
      generalize (ch.v : Int) = v at *
      generalize (ch.lo : Int) = lo at *
      generalize (ch.hi : Int) = hi at *
      clear e0 e1 e2 g0 g1 g2 hc hB
      go_wp2
      (refine wp_region_ext (by kernel_rfl) (by kernel_rfl) ?_; (repeat (go_big_quiet_step ((fail)))); refine wpQuiet_nil ?_; rintro _ ⟨pq, rfl⟩)
      have HB2 := Lib.hid (HB.out.after (same_ext wr pq))
      go_wp2
      go_roundw
      case rel => exact ⟨k + 1, by omega, by go_num, HB2.out⟩
      case measure => simp [intOf]; omega
    · have HS := Lib.hid hB.1
      clear hB
      go_wp2
      go_ret
      exact ⟨rfl, HS.out⟩
end Go.Proofs.Ytpokiglgjmcdoaa
