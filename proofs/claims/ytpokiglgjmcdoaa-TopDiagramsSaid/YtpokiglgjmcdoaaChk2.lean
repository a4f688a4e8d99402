/-
  dia.Check.
-/
import Derived.Test.YtpokiglgjmcdoaaChk
set_option linter.unusedVariables false
set_option linter.unusedSimpArgs false
namespace Go.Proofs.Ytpokiglgjmcdoaa
open Go.ChangeShapes Go.WideShapes Go.ChangeAt Go.RowKit Go.BigFrame Go.Shelf Go.Maps
open Um

theorem zero_bool (u : World) : (zeroValue 4).run Try.prog u = .ok (.bool false) u := by simp [go_sem, Try.underlying4]
def seenF (l : List Dia.Ch) (c : Dia.Ch) : Option Bool := if c ∈ l then some true else none
theorem seenF_next {cs : List Dia.Ch} {k : Nat} {c : Dia.Ch} (hc : cs[k]? = some c) (y : Dia.Ch) : (if y = c then some true else seenF (cs.take k) y) = seenF (cs.take (k + 1)) y := by
  have ht : cs.take (k + 1) = cs.take k ++ [c] := by
    obtain ⟨h1, h2⟩ := List.getElem?_eq_some_iff.1 hc
    rw [List.take_succ_eq_append_getElem h1, h2]
  unfold seenF
  rw [ht]
  by_cases hy : y = c
  · rw [if_pos hy, if_pos (by simp [hy])]
  · rw [if_neg hy]
    simp [hy]
theorem seenF_new {cs : List Dia.Ch} (hn : cs.Nodup) {k : Nat} {c : Dia.Ch} (hc : cs[k]? = some c) : seenF (cs.take k) c = none := by
  unfold seenF
  rw [if_neg]
  intro hm
  obtain ⟨j, hj⟩ := List.getElem?_of_mem hm
  rw [List.getElem?_take] at hj
  split at hj
  · rename_i hjk
    obtain ⟨l1, g1⟩ := List.getElem?_eq_some_iff.1 hj
    obtain ⟨l2, g2⟩ := List.getElem?_eq_some_iff.1 hc
    exact (List.pairwise_iff_getElem.1 hn) j k l1 l2 hjk (g1.trans g2.symm)
  · cases hj

/-- the state of the loop over the choices -/
structure Chk (w : World) (u : Value) (root : Nat) (l : List Dia.Ch) (wr : World) : Prop where
  same : Same w wr
  d : wr.heap[w.heap.size]? = some (.cells #[u, .int .i64 (root : Int)] 45)
  f : wr.heap[w.heap.size + 1]? = some (.cells #[.int .i64 0, .int .i64 0] 27)
  m : MapIs chKey chOk Value.bool wr (w.heap.size + 1 + 1) (seenF l)
theorem Chk.after {w wr w' : World} {u : Value} {root : Nat} {l : List Dia.Ch} (h : Chk w u root l wr) (hk : Same wr w') : Chk w u root l w' :=
  ⟨h.same.trans hk, (hk.block _ trivial (Array.getElem?_eq_some_iff.1 h.d).1).trans h.d, (hk.block _ trivial (Array.getElem?_eq_some_iff.1 h.f).1).trans h.f, h.m.same hk⟩
theorem chk_start (w : World) (u : Value) (root : Nat) : Chk w u root [] (((w.alloc (.cells #[u, .int .i64 (root : Int)] 45)).alloc (.cells #[.int .i64 0, .int .i64 0] 27)).alloc (.map #[] 0)) := by
  obtain ⟨W1, h1⟩ : ∃ W1, W1 = w.alloc (.cells #[u, .int .i64 (root : Int)] 45) := ⟨_, rfl⟩
  have s1 : W1.heap.size = w.heap.size + 1 := by rw [h1]; simp
  rw [← h1]
  obtain ⟨W2, h2⟩ : ∃ W2, W2 = W1.alloc (.cells #[.int .i64 0, .int .i64 0] 27) := ⟨_, rfl⟩
  have s2 : W2.heap.size = w.heap.size + 1 + 1 := by rw [h2]; simp [s1]
  rw [← h2]
  have k1 : Same w W1 := by rw [h1]; exact (Keeps.refl _ _).alloc _
  have k2 : Same W1 W2 := by rw [h2]; exact (Keeps.refl _ _).alloc _
  have k3 : Same W2 (W2.alloc (.map #[] 0)) := (Keeps.refl _ _).alloc _
  refine ⟨(k1.trans k2).trans k3, ?_, ?_, ?_⟩
  · have e : W1.heap[w.heap.size]? = some (.cells #[u, .int .i64 (root : Int)] 45) := by rw [h1]; exact heap_alloc_new w _
    exact ((k2.trans k3).block _ trivial (by omega)).trans e
  · have e : W2.heap[w.heap.size + 1]? = some (.cells #[.int .i64 0, .int .i64 0] 27) := by rw [h2, ← s1]; exact heap_alloc_new W1 _
    exact (k3.block _ trivial (by omega)).trans e
  · rw [← s2]
    exact (MapIs.made W2).congr fun x => by simp [seenF]

set_option maxHeartbeats 1600000 in
set_option maxRecDepth 100000 in
theorem check_any (cs : List Dia.Ch) (root : Nat) (hwf : Dia.WF 6 cs) (hl : cs.length ≤ 4000) (hr : root < cs.length + 2) (f : Nat) (hv : Dia.visit cs f root 2 = some (cs.length + 2)) (w : World) (u : Value) (hu : ChsAt (fun b => b < w.heap.size) w u cs) :
    Calls Try.prog 73 #[.int .i64 6, .agg #[u, .int .i64 root]] w fun e w' => e = .returned (.agg #[.int .i64 0, .int .i64 0]) ∧ Same w w' := by
  have hmm := @run_makeMap Try.prog
  have HU := Lib.hid hu
  have hfin := fun W (hW : Same w W) => finished_any cs root hwf hl hr f hv W u (ChsAt.mono (S := fun b => b < w.heap.size) (hu.keeps hW.keeps (T := fun b => b < w.heap.size) fun b hb => hb) fun b hb => Nat.lt_of_lt_of_le hb hW.size)
  have hlev := fun i (hi : i < cs.length + 2) W (hW : Same w W) => level_any cs root hl i hi (fun _ => True) W u ((hu.mono fun _ _ => trivial).same hW)
  obtain ⟨uo, ucap, rfl, hch⟩ := hu
  obtain ⟨n, hn⟩ : ∃ n, n = cs.length := ⟨_, rfl⟩
  have HF := Lib.hid hfin
  have HL := Lib.hid hlev
  have HCH := Lib.hid hch
  have HWF := Lib.hid hwf
  have hst := chk_start w (.slice uo n ucap) root
  have HST := Lib.hid hst
  rw [← hn] at hl hr HF HL
  rw [← hn]
  have HN := Lib.hid hn
  clear hfin hlev hch hwf hv hn hst
  go_enter Try.func73, Try.ntmps73
  go_wp2
  go_loopw [27] (fun i wr => ∃ k : Nat, k ≤ n ∧ i = .int .i64 k ∧ Chk w (.slice uo n ucap) root (cs.take k) wr) (fun i _ => n - (intOf i).toNat)
  case atStart => exact ⟨0, Nat.zero_le _, rfl, by simpa using HST.out⟩
  case round =>
    obtain ⟨k, hk, rfl, hC⟩ := hrel
    obtain ⟨d0, d1, _, _⟩ := cells2 hC.d
    obtain ⟨f0, f1, z0, z1⟩ := cells2 hC.f
    by_cases hkn : k < n
    · obtain ⟨ch, hc⟩ : ∃ ch, cs[k]? = some ch := ⟨_, List.getElem?_eq_getElem (by rw [← HN.out]; omega)⟩
      obtain ⟨q1, q2, q3, q4, q5, q6, q7⟩ := HWF.out.at_ k ch hc
      obtain ⟨b, o, rfl, hb, e0, e1, e2⟩ := HCH.out k ch hc
      have e0' := hC.same.cell_of trivial e0
      have e1' := hC.same.cell_of trivial e1
      have e2' := hC.same.cell_of trivial e2
      have hmem : ∀ x, (Instr.lookup 198 (.map (some (w.heap.size + 1 + 1))) (chKey ch) false).run Try.prog x = .ok (.bool false) x ∨ ¬ MapIs chKey chOk Value.bool x (w.heap.size + 1 + 1) (seenF (cs.take k)) := fun x => by
        by_cases hm : MapIs chKey chOk Value.bool x (w.heap.size + 1 + 1) (seenF (cs.take k))
        · left
          have := hm.look1 ch_keyv (x := ch) (show ch.v ≤ 4294967296 ∧ ch.lo ≤ 4294967296 ∧ ch.hi ≤ 4294967296 by rw [← HN.out] at *; omega) Try.underlying198 zero_bool
          rw [seenF_new HWF.out.once hc] at this
          exact this
        · exact .inr hm
      have HM := Lib.hid hmem
      have HL1 := Lib.hid (HL.out ch.lo (by omega))
      have HL2 := Lib.hid (HL.out ch.hi (by omega))
      have HNX := Lib.hid (seenF_next hc)
      have hst := fun x (hm : MapIs chKey chOk Value.bool x (w.heap.size + 1 + 1) (seenF (cs.take k))) => hm.store ch_keyv (x := ch) (show ch.v ≤ 4294967296 ∧ ch.lo ≤ 4294967296 ∧ ch.hi ≤ 4294967296 by omega) true Try.underlying198
      have HSTO := Lib.hid hst
      generalize Dia.lev cs ch.lo = l1 at *
      generalize Dia.lev cs ch.hi = l2 at *
      obtain ⟨vv, lo, hi⟩ := ch
      simp only at q1 q2 q3 q4 q5 q6 q7 e0' e1' e2'
      have t1 : ((lo : Int) == (hi : Int)) = false := by simp; omega
      have t2 : decide (l1 ≤ vv) = false := by simp; omega
      have t3 : decide (l2 ≤ vv) = false := by simp; omega
      have hin1 := fun W hW => in_any lo k wr.heap.size q3 (by omega) W hW
      have hin2 := fun W hW => in_any hi k wr.heap.size q4 (by omega) W hW
      have HI1 := Lib.hid hin1
      have HI2 := Lib.hid hin2
      have HC := Lib.hid hC
      clear hmem hst hc e0 e1 e2 hC hin1 hin2
      go_wp2_with fail
      obtain ⟨W1, h1⟩ : ∃ W1, W1 = wr.alloc (.cells #[.int .i64 (k : Int)] 3) := ⟨_, rfl⟩
      have s1 : W1.heap.size = wr.heap.size + 1 := by rw [h1]; simp
      rw [← h1]
      obtain ⟨W, h2⟩ : ∃ W, W = W1.alloc (.cells #[.int .i64 (vv : Int), .int .i64 (lo : Int), .int .i64 (hi : Int)] 136) := ⟨_, rfl⟩
      rw [← h2]
      have k1 : Same wr W1 := by rw [h1]; exact (Keeps.refl _ _).alloc _
      have k2 : Same W1 W := by rw [h2]; exact (Keeps.refl _ _).alloc _
      have g1 : W1.heap[wr.heap.size]? = some (.cells #[.int .i64 (k : Int)] 3) := by rw [h1]; exact heap_alloc_new wr _
      have g2 : W.heap[wr.heap.size + 1]? = some (.cells #[.int .i64 (vv : Int), .int .i64 (lo : Int), .int .i64 (hi : Int)] 136) := by rw [h2, ← s1]; exact heap_alloc_new W1 _
      obtain ⟨i0, _⟩ := cell1 ((k2.block _ trivial (Array.getElem?_eq_some_iff.1 g1).1).trans g1)
      obtain ⟨x0, x1, x2, _, _, _⟩ := cells3 g2
      have hCW := HC.out.after (k1.trans k2)
      obtain ⟨D0, D1, _, _⟩ := cells2 hCW.d
      have HCW := Lib.hid hCW
      clear h1 h2 k1 k2 g1 g2 s1 HC hCW d0 d1 f0 f1 z0 z1 e0' e1' e2'
      refine (HI1.out W i0).mono ?_
      rintro e w' ⟨rfl, rfl⟩
      go_wp2_with fail
      refine (HI2.out W i0).mono ?_
      rintro e w' ⟨rfl, rfl⟩
      have X0 := cell_ext x0
      have X1 := cell_ext x1
      have X2 := cell_ext x2
      have E0 := cell_ext D0
      have E1 := cell_ext D1
      have c1 := fun p => ext_calls (p := p) (HL1.out (ext W p) (HCW.out.same.trans (same_ext W p)))
      have c2 := fun p => ext_calls (p := p) (HL2.out (ext W p) (HCW.out.same.trans (same_ext W p)))
      go_wp2_with fail
      (refine wp_region_ext (by kernel_rfl) (by kernel_rfl) ?_; (repeat (go_big_quiet_step ((first | (with_reducible exact c1 _) | (with_reducible exact c2 _))))); refine wpQuiet_nil ?_; rintro _ ⟨pq, rfl⟩)
      have hCx := HCW.out.after (same_ext W pq)
      have hlk := (HM.out (ext W pq)).resolve_right (fun h => h hCx.m)
      have hlk' : (Instr.lookup 198 (.map (some (w.heap.size + 1 + 1))) (.agg #[.int .i64 (vv : Int), .int .i64 (lo : Int), .int .i64 (hi : Int)]) false).run Try.prog (ext W pq) = .ok (.bool false) (ext W pq) := hlk
      have hsu : ∃ w', (Instr.mapUpdate 198 (.map (some (w.heap.size + 1 + 1))) (.agg #[.int .i64 (vv : Int), .int .i64 (lo : Int), .int .i64 (hi : Int)]) (.bool true)).run Try.prog (ext W pq) = .ok () w' ∧ _ := HSTO.out _ hCx.m
      have HCX := Lib.hid hCx
      clear hlk hCx c1 c2
      go_wp2_with (at_mapUpdate; refine wpList_mapUpdate_is _ rfl _ _ _ 198 rfl _ _ _ rfl rfl rfl _ hsu ?_; rintro w5 ⟨hM, hK⟩)
      have hC5 : Chk w (.slice (some ⟨b, o, none⟩) n ucap) root (cs.take (k + 1)) w5 :=
        ⟨HCX.out.same.through hK (fun j hj => by omega), (hK.block _ (by omega) (Array.getElem?_eq_some_iff.1 HCX.out.d).1).trans HCX.out.d, (hK.block _ (by omega) (Array.getElem?_eq_some_iff.1 HCX.out.f).1).trans HCX.out.f, hM.congr HNX.out⟩
      have HC5 := Lib.hid hC5
      clear hM hK hC5 hsu
      go_roundw
      case rel => exact ⟨k + 1, by omega, by go_num, HC5.out⟩
      case measure => simp [intOf]; omega
    · have hc := HF.out wr hC.same
      have hlt1 : w.heap.size + 1 < wr.heap.size := (Array.getElem?_eq_some_iff.1 hC.f).1
      have HC := Lib.hid hC
      clear hC
      go_wp2_with fail
      refine hc.mono ?_
      rintro e w2 ⟨rfl, hS2⟩
      have f0' := hS2.cell_of trivial f0
      have f1' := hS2.cell_of trivial f1
      have z0' := (hS2.frozen (p := ⟨w.heap.size + 1, 0, none⟩) trivial hlt1).trans z0
      have z1' := (hS2.frozen (p := ⟨w.heap.size + 1, 1, none⟩) trivial hlt1).trans z1
      have HS2 := Lib.hid (HC.out.same.trans hS2)
      clear hc hS2
      go_wp2
      refine bodyPost_ret (v := .agg #[.int .i64 0, .int .i64 0]) (by simp [results, Try.results73, go_sem, f0', f1']) rfl ⟨rfl, ?_⟩
      refine Same.through HS2.out (S := fun b => b < w.heap.size) ?_ (fun b hb => hb)
      exact (((Keeps.refl _ _).setCell (p := ⟨w.heap.size + 1, 0, none⟩) (fun k (hk : k < w.heap.size) _ => by show k ≠ w.heap.size + 1; omega) _).setCell (p := ⟨w.heap.size + 1, 1, none⟩) (fun k (hk : k < w.heap.size) _ => by show k ≠ w.heap.size + 1; omega) _)
end Go.Proofs.Ytpokiglgjmcdoaa
