/-
  The references' functions on terms, fifth part: faults of terms.
-/
import Derived.Test.YtpokiglgjmcdoaaRef4
set_option linter.unusedVariables false
set_option linter.unusedSimpArgs false
namespace Um.Tr
theorem nodes_le (t : Tr) : ∀ n, (t.nodes n).2 ≤ n + t.size := by
  induction t using ind with
  | step t ih =>
    intro n
    rw [nodes_eq, size_eq]
    have : ∀ l : List Tr, (∀ k ∈ l, k ∈ t.kids) → ∀ m, (nodes.nodess l m).2 ≤ m + size.sizes l := by
      intro l
      induction l with
      | nil => intro _ m; simp [nodes.nodess]
      | cons a l ihl =>
        intro hl m
        have h1 := ih a (hl a (by simp)) m
        have h2 := ihl (fun k hk => hl k (by simp [hk])) (a.nodes m).2
        simp only [nodes.nodess, size.sizes]
        split <;> omega
    have := this t.kids (fun k hk => hk) (n + 1)
    split
    · simp
    · split
      · simp
      · omega
theorem nodess_drop {ks : List Tr} {k : Nat} {x : Tr} (h : ks[k]? = some x) (n : Nat) : nodes.nodess (ks.drop k) n = if (x.nodes n).1.1 ≠ 0 then x.nodes n else nodes.nodess (ks.drop (k + 1)) (x.nodes n).2 := by
  rw [drop_cons h, nodes.nodess]
end Um.Tr
namespace Go.Proofs.Ytpokiglgjmcdoaa
open Go.ChangeShapes Go.WideShapes Go.ChangeAt Go.RowKit Go.BigFrame
open Um

set_option maxHeartbeats 2000000 in
theorem nodes_any (t : Tr) : ∀ (m : Nat) (S : Nat → Prop) (w : World) (c0 c1 : Value), TrAt S w t c0 c1 → t.size + m ≤ 4194304 →
    Calls Try.prog 62 #[.agg #[c0, c1], .int .i64 m] w fun e w' => e = .returned (.tuple #[.agg #[.int .i64 (t.nodes m).1.1, .int .i64 (t.nodes m).1.2], .int .i64 (t.nodes m).2]) ∧ Same w w' := by
  induction t using Tr.ind with
  | step t ih =>
    intro m S w c0 c1 ht hsz
    obtain ⟨rfl, hi, a, n, cap, hn, rfl, hkids⟩ := trAt_iff.1 ht
    have hse := Tr.size_eq t
    have hls := length_le_sizes t.kids
    have hnb : n ≤ 4194304 := by omega
    unfold I64 at hi
    have HK : Hid (∀ k, k < n → _) := fun k hk => kid_at hn hkids hk
    have HEQ := Lib.hid (Tr.nodes_eq t m)
    rw [← hn] at HEQ
    have HN := Lib.hid hn; clear hn
    have HSE := Lib.hid hse; clear hse hkids
    have hfc := fun (c : Int) (W : World) => fault_any c (m : Int) W
    by_cases hb : t.head = 0 ∨ t.head < -8 ∨ 12 < t.head
    · have HB := Lib.hid hb
      have HR : Hid (t.nodes m = ((3, m), m)) := by have := HEQ.out; rw [if_pos HB.out] at this; exact this
      clear HEQ ih HK
      have hb2 : (t.head = 0) ∨ (¬ t.head = 0 ∧ t.head < -8) ∨ (¬ t.head = 0 ∧ ¬ t.head < -8 ∧ 12 < t.head) := by omega
      clear hb
      rw [HR.out]
      rcases hb2 with hb2 | ⟨hb2, hb3⟩ | ⟨hb2, hb3, hb4⟩
      all_goals
        have h1 : (t.head == 0) = decide (t.head = 0) := Int.beq_eq_decide_eq' _ _
        first | rw [decide_eq_true hb2] at h1 | rw [decide_eq_false hb2] at h1
        have HB2 := Lib.hid hb2; clear hb2
        go_enter Try.func62, Try.ntmps62
        go_wp2_with (go_at_call 60; refine (hfc _ _).mono ?_; rintro e w1 ⟨rfl, hS1⟩; obtain ⟨hcl, hfz⟩ := bcell hS1; have hz := hS1.size; simp at hz)
        exact bodyPost_ret (v := .tuple #[.agg #[.int .i64 3, .int .i64 m], .int .i64 m]) (by simp [results, Try.results62, go_sem, hcl, hfz, hz]) rfl
          ⟨rfl, ((((Keeps.refl _ w).alloc _).alloc _).trans hS1 |>.setCell (fun k _ hk => by show k ≠ w.heap.size + 1; omega) _).setCell (fun k _ hk => by show k ≠ w.heap.size + 1; omega) _⟩
    · have HB := Lib.hid hb
      have HEQ2 := HEQ.out
      rw [if_neg HB.out] at HEQ2
      have b1 : ¬ t.head = 0 := by omega
      have b2 : ¬ t.head < -8 := by omega
      have b3 : ¬ 12 < t.head := by omega
      have h1 : (t.head == 0) = false := by simp [b1]
      clear hb
      by_cases hb : 3 < n ∨ (t.head < 0 ∧ 0 < n)
      · rw [if_pos hb] at HEQ2
        have HR := Lib.hid HEQ2
        have hb2 : 3 < n ∨ (¬ 3 < n ∧ t.head < 0 ∧ 0 < n) := by omega
        clear HEQ HEQ2 ih HK hb
        rw [HR.out]
        rcases hb2 with hb2 | ⟨hb2, hb3, hb4⟩
        all_goals
          have hb5 : decide ((3 : Int) < (n : Int)) = decide (3 < n) := by rw [decide_eq_decide]; omega
          first | rw [decide_eq_true hb2] at hb5 | rw [decide_eq_false hb2] at hb5
          go_enter Try.func62, Try.ntmps62
          go_wp2_with (go_at_call 60; refine (hfc _ _).mono ?_; rintro e w1 ⟨rfl, hS1⟩; obtain ⟨hcl, hfz⟩ := bcell hS1; have hz := hS1.size; simp at hz)
          exact bodyPost_ret (v := .tuple #[.agg #[.int .i64 9, .int .i64 m], .int .i64 m]) (by simp [results, Try.results62, go_sem, hcl, hfz, hz]) rfl
            ⟨rfl, ((((Keeps.refl _ w).alloc _).alloc _).trans hS1 |>.setCell (fun k _ hk => by show k ≠ w.heap.size + 1; omega) _).setCell (fun k _ hk => by show k ≠ w.heap.size + 1; omega) _⟩
      · rw [if_neg hb] at HEQ2
        have HR := Lib.hid HEQ2
        have c1 : ¬ 3 < n := by omega
        have c2 : t.head < 0 → ¬ 0 < n := by omega
        clear HEQ HEQ2 hb
        have c4 : t.head < 0 → n = 0 := by omega
        have C4 := Lib.hid c4; clear c4 c2
        by_cases c3 : t.head < 0
        · have c5 : ¬ 0 < n := by have := C4.out c3; omega
          go_enter Try.func62, Try.ntmps62
          go_wp2
          go_loopw [1, 6] (fun q i wr => ∃ k qn : Nat, k ≤ n ∧ i = .int .i64 k ∧ q = .int .i64 qn ∧ Tr.nodes.nodess (t.kids.drop k) qn = t.nodes m ∧ qn + Tr.size.sizes (t.kids.drop k) ≤ 4194304 ∧ Same w wr ∧ w.heap.size + 1 < wr.heap.size ∧
            wr.cell? ⟨w.heap.size, 0, none⟩ = some (.int .i64 t.head) ∧ wr.cell? ⟨w.heap.size, 1, none⟩ = some (.slice a n cap) ∧
            wr.cell? ⟨w.heap.size + 1, 0, none⟩ = some (.int .i64 0) ∧ wr.cell? ⟨w.heap.size + 1, 1, none⟩ = some (.int .i64 0) ∧ (∀ o, wr.frozen? ⟨w.heap.size + 1, o, none⟩ = false)) (fun _ i _ => n - (intOf i).toNat)
          case atStart =>
            refine ⟨0, m + 1, Nat.zero_le _, rfl, rfl, HR.out.symm, ?_, ((Keeps.refl _ w).alloc _).alloc _, by simp, by simp, by simp, by simp, by simp, by intro o; simp⟩
            have := HSE.out; simp; omega
          case round =>
            obtain ⟨k, qn, hk, rfl, rfl, hrest, hqb, hS, hlt, hc0, hc1, hd0, hd1, hdf⟩ := hrel
            by_cases hkn : k < n
            · exfalso; have := C4.out c3; omega
            · go_wp2
              exact bodyPost_ret (v := .tuple #[.agg #[.int .i64 0, .int .i64 0], .int .i64 qn]) (by simp [results, Try.results62, go_sem, hd0, hd1, hdf]) rfl
                ⟨by rw [← hrest, List.drop_of_length_le (by rw [← HN.out]; omega)]; rfl, (hS.setCell (fun k _ hk => by show k ≠ w.heap.size + 1; omega) _).setCell (fun k _ hk => by show k ≠ w.heap.size + 1; omega) _⟩
        · have c5 : True := trivial
          go_enter Try.func62, Try.ntmps62
          go_wp2
          go_loopw [1, 6] (fun q i wr => ∃ k qn : Nat, k ≤ n ∧ i = .int .i64 k ∧ q = .int .i64 qn ∧ Tr.nodes.nodess (t.kids.drop k) qn = t.nodes m ∧ qn + Tr.size.sizes (t.kids.drop k) ≤ 4194304 ∧ Same w wr ∧ w.heap.size + 1 < wr.heap.size ∧
            wr.cell? ⟨w.heap.size, 0, none⟩ = some (.int .i64 t.head) ∧ wr.cell? ⟨w.heap.size, 1, none⟩ = some (.slice a n cap) ∧
            wr.cell? ⟨w.heap.size + 1, 0, none⟩ = some (.int .i64 0) ∧ wr.cell? ⟨w.heap.size + 1, 1, none⟩ = some (.int .i64 0) ∧ (∀ o, wr.frozen? ⟨w.heap.size + 1, o, none⟩ = false)) (fun _ i _ => n - (intOf i).toNat)
          case atStart =>
            refine ⟨0, m + 1, Nat.zero_le _, rfl, rfl, HR.out.symm, ?_, ((Keeps.refl _ w).alloc _).alloc _, by simp, by simp, by simp, by simp, by simp, by intro o; simp⟩
            have := HSE.out; simp; omega
          case round =>
            obtain ⟨k, qn, hk, rfl, rfl, hrest, hqb, hS, hlt, hc0, hc1, hd0, hd1, hdf⟩ := hrel
            by_cases hkn : k < n
            · obtain ⟨x, b, o, x0, x1, hx, hmem, rfl, hb, e0, e1, hxt⟩ := HK.out k hkn
              have e0' := hS.cell_of (p := ⟨b, o + k * 2, none⟩) trivial e0
              have e1' := hS.cell_of (p := ⟨b, o + k * 2 + 1, none⟩) trivial e1
              have hdr := Tr.nodess_drop hx qn
              have hsz2 : Tr.size.sizes (t.kids.drop k) = x.size + Tr.size.sizes (t.kids.drop (k + 1)) := by rw [Tr.drop_cons hx]; rfl
              have hnl := Tr.nodes_le x qn
              have hc := ih x hmem qn S wr x0 x1 (hxt.same hS) (by omega)
              have hqb2 : (x.nodes qn).2 + Tr.size.sizes (t.kids.drop (k + 1)) ≤ 4194304 := by omega
              rw [hdr] at hrest
              have HX := Lib.hid hx; clear hx
              have HQ2 := Lib.hid hqb2; clear hqb2 hqb hsz2 hdr
              obtain ⟨p1, p2, p3, hp⟩ : ∃ p1 p2 p3, x.nodes qn = ((p1, p2), p3) := ⟨_, _, _, rfl⟩
              rw [hp] at hc hrest hnl HQ2
              have HP := Lib.hid hp; clear hp
              have hp3 : p3 ≤ 8388608 := by have := HQ2.out; simp at this; omega
              simp only at hc hrest
              clear ih e0 e1 ht HK hnl
              by_cases hp1 : p1 = 0
              · subst hp1
                have HR2 := Lib.hid hrest; clear hrest
                go_wp2_with fail; refine hc.mono ?_; rintro e w1 ⟨rfl, hS1⟩; (obtain ⟨hcl, hfz⟩ := bcell hS1; have hz := hS1.size; have hz2 : w.heap.size + 1 < w1.heap.size := Nat.lt_of_lt_of_le hlt hz; have hz3 : w.heap.size < w1.heap.size := (by omega); have hz4 : w.heap.size < wr.heap.size := (by omega)); go_wp2
                go_roundw
                case rel =>
                  refine ⟨k + 1, p3, by omega, by go_num, rfl, ?_, HQ2.out, hS.trans (hS1.alloc _), by simp; omega, ?_, ?_, ?_, ?_, ?_⟩
                  · have := HR2.out; simpa using this
                  · exact (hS1.alloc _).cell_of trivial hc0
                  · exact (hS1.alloc _).cell_of trivial hc1
                  · exact (hS1.alloc _).cell_of trivial hd0
                  · exact (hS1.alloc _).cell_of trivial hd1
                  · intro o; exact ((hS1.alloc _).frozen (p := ⟨w.heap.size + 1, o, none⟩) trivial hlt).trans (hdf o)
                case measure => simp [intOf]; omega
              · rw [if_pos hp1] at hrest
                have hp4 : (p1 != 0) = true := by simp [hp1]
                have HP1 := Lib.hid hp1; clear hp1
                have HR2 := Lib.hid hrest; clear hrest
                go_wp2_with fail; refine hc.mono ?_; rintro e w1 ⟨rfl, hS1⟩; (obtain ⟨hcl, hfz⟩ := bcell hS1; have hz := hS1.size; have hz2 : w.heap.size + 1 < w1.heap.size := Nat.lt_of_lt_of_le hlt hz; have hz3 : w.heap.size < w1.heap.size := (by omega); have hz4 : w.heap.size < wr.heap.size := (by omega)); go_wp2
                exact bodyPost_ret (v := .tuple #[.agg #[.int .i64 p1, .int .i64 p2], .int .i64 p3]) (by simp [results, Try.results62, go_sem, hcl, hfz, hz, hz2, hd0, hd1, hdf, hlt]) rfl
                  ⟨by rw [← HR2.out], (((hS.trans hS1).setCell (fun k _ hk => by show k ≠ w.heap.size + 1; omega) _).setCell (fun k _ hk => by show k ≠ w.heap.size + 1; omega) _).alloc _⟩
            · go_wp2
              exact bodyPost_ret (v := .tuple #[.agg #[.int .i64 0, .int .i64 0], .int .i64 qn]) (by simp [results, Try.results62, go_sem, hd0, hd1, hdf]) rfl
                ⟨by rw [← hrest, List.drop_of_length_le (by rw [← HN.out]; omega)]; rfl, (hS.setCell (fun k _ hk => by show k ≠ w.heap.size + 1; omega) _).setCell (fun k _ hk => by show k ≠ w.heap.size + 1; omega) _⟩
end Go.Proofs.Ytpokiglgjmcdoaa
