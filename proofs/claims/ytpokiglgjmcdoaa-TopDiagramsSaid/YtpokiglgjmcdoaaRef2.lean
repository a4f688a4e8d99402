/-
  The references' functions on terms, second part: sameness.
-/
import Derived.Test.YtpokiglgjmcdoaaRef1
set_option linter.unusedVariables false
set_option linter.unusedSimpArgs false
namespace Go.Proofs.Ytpokiglgjmcdoaa
open Go.ChangeShapes Go.WideShapes Go.ChangeAt Go.RowKit Go.BigFrame
open Um

theorem beqs_drop {l m : List Tr} {k : Nat} {x y : Tr} (hx : l[k]? = some x) (hy : m[k]? = some y) : Tr.beq.beqs (l.drop k) (m.drop k) = (x.beq y && Tr.beq.beqs (l.drop (k + 1)) (m.drop (k + 1))) := by
  have h1 := (List.getElem?_eq_some_iff.1 hx)
  have h2 := (List.getElem?_eq_some_iff.1 hy)
  obtain ⟨h1, rfl⟩ := h1
  obtain ⟨h2, rfl⟩ := h2
  rw [List.drop_eq_getElem_cons h1, List.drop_eq_getElem_cons h2]
  rfl
theorem beqs_len {l m : List Tr} (h : l.length ≠ m.length) : Tr.beq.beqs l m = false := by
  induction l generalizing m with
  | nil => cases m <;> simp_all [Tr.beq.beqs]
  | cons a l ih => cases m with
    | nil => simp [Tr.beq.beqs]
    | cons b m => simp [Tr.beq.beqs, ih (by simpa using h)]
theorem _root_.Int.beq_eq_decide_eq' (a b : Int) : (a == b) = decide (a = b) := by rw [Bool.eq_iff_iff]; simp
theorem beq_def (a b : Tr) : a.beq b = (decide (a.head = b.head) && Tr.beq.beqs a.kids b.kids) := by
  cases a; cases b; rw [Tr.beq, Int.beq_eq_decide_eq']; rfl

theorem same_any (t : Tr) : ∀ (u : Tr) (S : Nat → Prop) (w : World) (c0 c1 d0 d1 : Value), TrAt S w t c0 c1 → TrAt S w u d0 d1 → t.kids.length ≤ 2097152 ∧ t.size ≤ 2097152 → u.size ≤ 2097152 →
    Calls Try.prog 21 #[.agg #[c0, c1], .agg #[d0, d1]] w fun e w' => e = .returned (.bool (t.beq u)) ∧ Same w w' := by
  induction t using Tr.ind with
  | step t ih =>
    intro u S w c0 c1 d0 d1 ht hu hsz husz
    obtain ⟨rfl, hi, a, n, cap, hn, rfl, hkids⟩ := trAt_iff.1 ht
    obtain ⟨rfl, hj, b, m, cap', hm, rfl, hlids⟩ := trAt_iff.1 hu
    have hse := Tr.size_eq t
    have hls := length_le_sizes t.kids
    have huse := Tr.size_eq u
    have huls := length_le_sizes u.kids
    have hnb : n ≤ 2097152 := by omega
    have hmb : m ≤ 2097152 := by omega
    unfold I64 at hi hj
    have HN := Lib.hid hn; clear hn
    have HM := Lib.hid hm; clear hm
    have HSE := Lib.hid hse; clear hse
    by_cases hh : t.head = u.head
    · have hh1 : (t.head != u.head) = false := by simp [hh]
      have hh2 : (t.head == u.head) = true := by simp [hh]
      have hh3 : decide (t.head = u.head) = true := by simp [hh]
      have HH := Lib.hid hh; clear hh
      by_cases hl : n = m
      · have hl1 : ((n : Int) != (m : Int)) = false := by simp [hl]
        have HL := Lib.hid hl; clear hl
        go_enter Try.func21, Try.ntmps21
        go_wp2
        go_loopw [5] (fun i wr => ∃ k : Nat, k ≤ n ∧ i = .int .i64 k ∧ Tr.beq.beqs (t.kids.drop k) (u.kids.drop k) = Tr.beq.beqs t.kids u.kids ∧ Same w wr ∧ w.heap.size + 1 < wr.heap.size ∧
          wr.cell? ⟨w.heap.size, 0, none⟩ = some (.int .i64 t.head) ∧ wr.cell? ⟨w.heap.size, 1, none⟩ = some (.slice a n cap) ∧
          wr.cell? ⟨w.heap.size + 1, 0, none⟩ = some (.int .i64 u.head) ∧ wr.cell? ⟨w.heap.size + 1, 1, none⟩ = some (.slice b m cap')) (fun i _ => n - (intOf i).toNat)
        case atStart =>
          exact ⟨0, Nat.zero_le _, rfl, rfl, ((Keeps.refl _ w).alloc _).alloc _, by simp, by simp, by simp, by simp, by simp⟩
        case round =>
          obtain ⟨k, hk, rfl, hrest, hS, hlt, hc0, hc1, hd0, hd1⟩ := hrel
          by_cases hkn : k < n
          · obtain ⟨x, hx⟩ : ∃ x, t.kids[k]? = some x := ⟨_, List.getElem?_eq_getElem (by rw [← HN.out]; exact hkn)⟩
            obtain ⟨y, hy⟩ : ∃ y, u.kids[k]? = some y := ⟨_, List.getElem?_eq_getElem (by rw [← HM.out, ← HL.out]; exact hkn)⟩
            obtain ⟨b1, o, x0, x1, rfl, hb, e0, e1, hxt⟩ := hkids k x hx
            obtain ⟨b2, o2, y0, y1, rfl, hb2, f0, f1, hyt⟩ := hlids k y hy
            have e0' := cell_ext (hS.cell_of (p := ⟨b1, o + k * 2, none⟩) trivial e0)
            have e1' := cell_ext (hS.cell_of (p := ⟨b1, o + k * 2 + 1, none⟩) trivial e1)
            have f0' := cell_ext (hS.cell_of (p := ⟨b2, o2 + k * 2, none⟩) trivial f0)
            have f1' := cell_ext (hS.cell_of (p := ⟨b2, o2 + k * 2 + 1, none⟩) trivial f1)
            have hc0' := cell_ext hc0
            have hc1' := cell_ext hc1
            have hd0' := cell_ext hd0
            have hd1' := cell_ext hd1
            have hmem := List.mem_of_getElem? hx
            have hxs := Tr.sizes_mem hmem
            have hys := Tr.sizes_mem (List.mem_of_getElem? hy)
            have hc := fun p => ext_calls (ih x hmem y S (ext wr p) x0 x1 y0 y1 (hxt.same (hS.trans (same_ext _ _))) (hyt.same (hS.trans (same_ext _ _))) ⟨by have := Tr.size_eq x; have := length_le_sizes x.kids; have := HSE.out; omega, by have := HSE.out; omega⟩ (by omega))
            have hdr := beqs_drop hx hy
            have HX := Lib.hid hx; clear hx
            have HY := Lib.hid hy; clear hy
            have HDR := Lib.hid hdr; clear hdr
            have HR := Lib.hid hrest; clear hrest
            have hkm : k < m := by have := HL.out; omega
            clear hkids hlids ih e0 e1 f0 f1 ht hu
            cases hxy : x.beq y
            all_goals
              have HXY := Lib.hid hxy; clear hxy
              rw [HXY.out] at hc
              go_wp2
              (refine wp_region_ext (by kernel_rfl) (by kernel_rfl) ?_; (repeat (go_big_quiet_step ((exact hc _)))); refine wpQuiet_nil ?_; rintro _ ⟨pq, rfl⟩)
              have hS1 := hS.trans (same_ext wr pq)
              have hsz1 := (same_ext wr pq).size
              have hc0'' := hc0' pq
              have hc1'' := hc1' pq
              have hd0'' := hd0' pq
              have hd1'' := hd1' pq
              clear hc0' hc1' hd0' hd1' e0' e1' f0' f1' hc
              go_wp2
              first
                | (go_roundw
                   case rel =>
                     refine ⟨k + 1, by omega, by go_num, ?_, hS1, by omega, hc0'', hc1'', hd0'', hd1''⟩
                     have := HDR.out; rw [HXY.out, Bool.true_and] at this; rw [← this, HR.out]
                   case measure => simp [intOf]; omega)
                | (go_ret
                   refine ⟨ret_bool ?_, hS1⟩
                   have := HDR.out; rw [HXY.out, Bool.false_and, HR.out] at this; rw [beq_def, this]; simp)
          · go_wp2
            go_ret
            refine ⟨ret_bool ?_, hS⟩
            rw [beq_def, hh3, ← hrest, List.drop_of_length_le (by rw [← HN.out]; omega), List.drop_of_length_le (by rw [← HM.out, ← HL.out]; omega)]
            rfl
      · have hl1 : ((n : Int) != (m : Int)) = true := by simp; omega
        have HL := Lib.hid hl; clear hl
        go_enter Try.func21, Try.ntmps21
        go_wp2
        go_ret
        refine ⟨ret_bool ?_, ((Keeps.refl _ w).alloc _).alloc _⟩
        rw [beq_def, beqs_len (by rw [← HN.out, ← HM.out]; exact HL.out)]; simp
    · have hh1 : (t.head != u.head) = true := by simp [hh]
      have hh2 : (t.head == u.head) = false := by simp [hh]
      have hh3 : decide (t.head = u.head) = false := by simp [hh]
      have HH := Lib.hid hh; clear hh
      go_enter Try.func21, Try.ntmps21
      go_wp2
      go_ret
      exact ⟨ret_bool (by rw [beq_def, hh3]; rfl), ((Keeps.refl _ w).alloc _).alloc _⟩
end Go.Proofs.Ytpokiglgjmcdoaa
