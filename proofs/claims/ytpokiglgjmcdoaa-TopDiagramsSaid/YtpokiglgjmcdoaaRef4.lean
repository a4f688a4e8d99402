/-
  The references' functions on terms, fourth part: the walks of depth, the greatest variable, how often a head stands, faults.
-/
import Derived.Test.YtpokiglgjmcdoaaRef3
set_option linter.unusedVariables false
set_option linter.unusedSimpArgs false
namespace Go.Proofs.Ytpokiglgjmcdoaa
open Go.ChangeShapes Go.WideShapes Go.ChangeAt Go.RowKit Go.BigFrame
open Um

/-- an index below the number of kids has its kid, where the term lies -/
theorem kid_at {S : Nat → Prop} {w : World} {t : Tr} {a : Option Addr} {n : Nat} (hn : n = t.kids.length)
    (h : ∀ j k, t.kids[j]? = some k → ∃ b o c0 c1, a = some ⟨b, o, none⟩ ∧ S b ∧ w.cell? ⟨b, o + j * 2, none⟩ = some c0 ∧ w.cell? ⟨b, o + j * 2 + 1, none⟩ = some c1 ∧ TrAt S w k c0 c1) {k : Nat} (hk : k < n) :
    ∃ x b o c0 c1, t.kids[k]? = some x ∧ x ∈ t.kids ∧ a = some ⟨b, o, none⟩ ∧ S b ∧ w.cell? ⟨b, o + k * 2, none⟩ = some c0 ∧ w.cell? ⟨b, o + k * 2 + 1, none⟩ = some c1 ∧ TrAt S w x c0 c1 := by
  obtain ⟨x, hx⟩ : ∃ x, t.kids[k]? = some x := ⟨_, List.getElem?_eq_getElem (by omega)⟩
  obtain ⟨b, o, c0, c1, h1, h2, h3, h4, h5⟩ := h k x hx
  exact ⟨x, b, o, c0, c1, hx, List.mem_of_getElem? hx, h1, h2, h3, h4, h5⟩

theorem deep_any (t : Tr) : ∀ (S : Nat → Prop) (w : World) (c0 c1 : Value), TrAt S w t c0 c1 → t.size ≤ 2097152 →
    Calls Try.prog 61 #[.agg #[c0, c1]] w fun e w' => e = .returned (.int .i64 t.deep) ∧ Same w w' := by
  induction t using Tr.ind with
  | step t ih =>
    intro S w c0 c1 ht hsz
    obtain ⟨rfl, hi, a, n, cap, hn, rfl, hkids⟩ := trAt_iff.1 ht
    have hse := Tr.size_eq t
    have hls := length_le_sizes t.kids
    have hnb : n ≤ 2097152 := by omega
    have HK : Hid (∀ k, k < n → _) := fun k hk => kid_at hn hkids hk
    have HN := Lib.hid hn; clear hn
    have HSE := Lib.hid hse; clear hse hkids
    go_enter Try.func61, Try.ntmps61
    go_wp2
    go_loopw [3, 4] (fun s i wr => ∃ k : Nat, k ≤ n ∧ i = .int .i64 k ∧ s = .int .i64 ((Tr.deep.deeps (t.kids.take k) : Nat) : Int) ∧ Same w wr ∧ w.heap.size < wr.heap.size ∧
      wr.cell? ⟨w.heap.size, 0, none⟩ = some (.int .i64 t.head) ∧ wr.cell? ⟨w.heap.size, 1, none⟩ = some (.slice a n cap)) (fun _ i _ => n - (intOf i).toNat)
    case atStart =>
      refine ⟨0, Nat.zero_le _, rfl, rfl, (Keeps.refl _ w).alloc _, by simp, by simp, by simp⟩
    case round =>
      obtain ⟨k, hk, rfl, rfl, hS, hlt, hc0, hc1⟩ := hrel
      by_cases hkn : k < n
      · obtain ⟨x, b, o, x0, x1, hx, hmem, rfl, hb, e0, e1, hxt⟩ := HK.out k hkn
        have e0' := hS.cell_of (p := ⟨b, o + k * 2, none⟩) trivial e0
        have e1' := hS.cell_of (p := ⟨b, o + k * 2 + 1, none⟩) trivial e1
        have hxs := Tr.deeps_take hx
        have hsm := Tr.sizes_mem hmem
        have hd1 := Tr.deeps_le_sizes (t.kids.take k)
        have hd2 := Tr.sizes_take_le t.kids k
        have hd3 := Tr.deep_le_size x
        have hc := ih x hmem S wr x0 x1 (hxt.same hS) (by have := HSE.out; omega)
        have hb1 : Tr.deep.deeps (t.kids.take k) ≤ 2097152 := by have := HSE.out; omega
        have hb2 : x.deep ≤ 2097152 := by have := HSE.out; omega
        have HXS := Lib.hid hxs; clear hxs
        have HX := Lib.hid hx; clear hx
        clear ih e0 e1 ht
        go_wp2_with (refine hc.mono ?_; rintro e w1 ⟨rfl, hS1⟩; have hc0' := hS1.cell_of trivial hc0; have hc1' := hS1.cell_of trivial hc1)
        all_goals
          go_roundw
          case rel =>
            refine ⟨k + 1, by omega, by go_num, ?_, hS.trans hS1, Nat.lt_of_lt_of_le hlt hS1.size, hc0', hc1'⟩
            rw [HXS.out]; congr 1; omega
          case measure => simp [intOf]; omega
      · have hdl := Tr.deeps_le_sizes t.kids
        have hb3 : Tr.deep.deeps (t.kids.take k) ≤ 2097152 := by rw [List.take_of_length_le (by rw [← HN.out]; omega)]; have := HSE.out; omega
        go_wp2
        go_ret
        refine ⟨ret_int ?_, hS⟩
        rw [Tr.deep_eq, List.take_of_length_le (by rw [← HN.out]; omega)]; simp

theorem times_any (v : Int) (hv : I64 v) (t : Tr) : ∀ (S : Nat → Prop) (w : World) (c0 c1 : Value), TrAt S w t c0 c1 → t.size ≤ 2097152 →
    Calls Try.prog 65 #[.agg #[c0, c1], .int .i64 v] w fun e w' => e = .returned (.int .i64 (t.times v)) ∧ Same w w' := by
  induction t using Tr.ind with
  | step t ih =>
    intro S w c0 c1 ht hsz
    obtain ⟨rfl, hi, a, n, cap, hn, rfl, hkids⟩ := trAt_iff.1 ht
    have hse := Tr.size_eq t
    have hls := length_le_sizes t.kids
    have hnb : n ≤ 2097152 := by omega
    have HK : Hid (∀ k, k < n → _) := fun k hk => kid_at hn hkids hk
    have HN := Lib.hid hn; clear hn
    have HSE := Lib.hid hse; clear hse hkids
    obtain ⟨z, hz1, hz2, hz3⟩ : ∃ z : Nat, z = (if t.head = v then 1 else 0) ∧ z ≤ 1 ∧ (decide (t.head = v) = true ∧ z = 1 ∨ decide (t.head = v) = false ∧ z = 0) := by
      by_cases h : t.head = v <;> simp [h]
    have HZ := Lib.hid hz1; clear hz1
    rcases hz3 with ⟨hd, rfl⟩ | ⟨hd, rfl⟩
    all_goals
      have hd' : (t.head == v) = decide (t.head = v) := by rw [Int.beq_eq_decide_eq']
      rw [hd] at hd'
      go_enter Try.func65, Try.ntmps65
      go_wp2
      go_loopw [5, 6] (fun s i wr => ∃ k : Nat, k ≤ n ∧ i = .int .i64 k ∧ s = .int .i64 (((if t.head = v then 1 else 0) + Tr.times.timess v (t.kids.take k) : Nat) : Int) ∧ Same w wr ∧ w.heap.size < wr.heap.size ∧
        wr.cell? ⟨w.heap.size, 0, none⟩ = some (.int .i64 t.head) ∧ wr.cell? ⟨w.heap.size, 1, none⟩ = some (.slice a n cap)) (fun _ i _ => n - (intOf i).toNat)
      case atStart =>
        refine ⟨0, Nat.zero_le _, rfl, ?_, (Keeps.refl _ w).alloc _, by simp, by simp, by simp⟩
        rw [← HZ.out]; rfl
      case round =>
        obtain ⟨k, hk, rfl, rfl, hS, hlt, hc0, hc1⟩ := hrel
        rw [← HZ.out]
        by_cases hkn : k < n
        · obtain ⟨x, b, o, x0, x1, hx, hmem, rfl, hb, e0, e1, hxt⟩ := HK.out k hkn
          have e0' := hS.cell_of (p := ⟨b, o + k * 2, none⟩) trivial e0
          have e1' := hS.cell_of (p := ⟨b, o + k * 2 + 1, none⟩) trivial e1
          have hxs := Tr.timess_take (v := v) hx
          have hsm := Tr.sizes_mem hmem
          have hd1 := Tr.timess_le_sizes v (t.kids.take k)
          have hd2 := Tr.sizes_take_le t.kids k
          have hd3 := Tr.times_le_size v x
          have hc := ih x hmem S wr x0 x1 (hxt.same hS) (by have := HSE.out; omega)
          have hb1 : Tr.times.timess v (t.kids.take k) ≤ 2097152 := by have := HSE.out; omega
          have hb2 : x.times v ≤ 2097152 := by have := HSE.out; omega
          have HXS := Lib.hid hxs; clear hxs
          have HX := Lib.hid hx; clear hx
          clear ih e0 e1 ht
          go_wp2_with (refine hc.mono ?_; rintro e w1 ⟨rfl, hS1⟩; have hc0' := hS1.cell_of trivial hc0; have hc1' := hS1.cell_of trivial hc1)
          go_roundw
          case rel =>
            refine ⟨k + 1, by omega, by go_num, ?_, hS.trans hS1, Nat.lt_of_lt_of_le hlt hS1.size, hc0', hc1'⟩
            rw [HXS.out]; go_num
          case measure => simp [intOf]; omega
        · go_wp2
          go_ret
          refine ⟨ret_int ?_, hS⟩
          rw [Tr.times_eq, List.take_of_length_le (by rw [← HN.out]; omega), ← HZ.out]

theorem most_any (t : Tr) : ∀ (S : Nat → Prop) (w : World) (c0 c1 : Value), TrAt S w t c0 c1 → t.size ≤ 2097152 → (∀ v, t.has v = true → -9223372036854775808 < v) →
    Calls Try.prog 20 #[.agg #[c0, c1]] w fun e w' => e = .returned (.int .i64 t.most) ∧ Same w w' := by
  induction t using Tr.ind with
  | step t ih =>
    intro S w c0 c1 ht hsz hv
    obtain ⟨rfl, hi, a, n, cap, hn, rfl, hkids⟩ := trAt_iff.1 ht
    have hse := Tr.size_eq t
    have hls := length_le_sizes t.kids
    have hnb : n ≤ 2097152 := by omega
    have hh := hv t.head (Tr.has_iff.2 (.inl rfl))
    unfold I64 at hi
    have HK : Hid (∀ k, k < n → _) := fun k hk => kid_at hn hkids hk
    have HN := Lib.hid hn; clear hn
    have HSE := Lib.hid hse; clear hse hkids
    have hmb : ∀ l : List Tr, (∀ x ∈ l, ∀ v, x.has v = true → -9223372036854775808 < v) → Tr.most.mosts l ≤ 9223372036854775807 := by
      intro l
      have hx : ∀ x : Tr, (∀ v, x.has v = true → -9223372036854775808 < v) → x.most ≤ 9223372036854775807 := by
        intro x
        induction x using Tr.ind with
        | step x ihx =>
          intro hxv
          rw [Tr.most_eq]
          have h0 := hxv x.head (Tr.has_iff.2 (.inl rfl))
          have : ∀ m : List Tr, (∀ y ∈ m, y ∈ x.kids) → Tr.most.mosts m ≤ 9223372036854775807 := by
            intro m
            induction m with
            | nil => intro _; simp [Tr.most.mosts]
            | cons y m ihm =>
              intro hm
              have h1 := ihx y (hm y (by simp)) (fun v h => hxv v (Tr.has_iff.2 (.inr ⟨y, hm y (by simp), h⟩)))
              have h2 := ihm (fun y hy => hm y (by simp [hy]))
              simp only [Tr.most.mosts]; omega
          have := this x.kids (fun y hy => hy)
          omega
      induction l with
      | nil => intro _; simp [Tr.most.mosts]
      | cons y m ihm =>
        intro hm
        have h1 := hx y (hm y (by simp))
        have h2 := ihm (fun x hx => hm x (by simp [hx]))
        simp only [Tr.most.mosts]; omega
    have hkv : ∀ x ∈ t.kids, ∀ v, x.has v = true → -9223372036854775808 < v := fun x hx v h => hv v (Tr.has_iff.2 (.inr ⟨x, hx, h⟩))
    have HMB := Lib.hid hmb; clear hmb
    have HKV := Lib.hid hkv; clear hkv hv
    obtain ⟨z, hz1, hz0, hz2⟩ : ∃ z : Int, z = max 0 (-t.head) ∧ 0 ≤ z ∧ z ≤ 9223372036854775807 := ⟨_, rfl, by omega, by omega⟩
    have HZ := Lib.hid hz1; clear hz1
    by_cases hd : t.head < 0
    all_goals
      have HE : Hid (Tr.most t = max z (Tr.most.mosts t.kids)) := by have h1 := HZ.out; have := Tr.most_eq t; show _ = _; omega
      have HZ0 : Hid ((if t.head < 0 then -t.head else 0) = z) := by have h1 := HZ.out; show _ = _; split <;> omega
      go_enter Try.func20, Try.ntmps20
      go_wp2
      go_loopw [3, 4, 5] (fun s i d wr => ∃ k : Nat, k ≤ n ∧ i = .int .i64 k ∧ s = .int .i64 (max z (Tr.most.mosts (t.kids.take k))) ∧ Same w wr ∧ w.heap.size < wr.heap.size ∧
        wr.cell? ⟨w.heap.size, 0, none⟩ = some (.int .i64 t.head) ∧ wr.cell? ⟨w.heap.size, 1, none⟩ = some (.slice a n cap)) (fun _ i _ _ => n - (intOf i).toNat)
      case atStart =>
        refine ⟨0, Nat.zero_le _, rfl, ?_, (Keeps.refl _ w).alloc _, by simp, by simp, by simp⟩
        have h1 := HZ.out
        congr 1; simp only [List.take_zero, Tr.most.mosts]; omega
      case round =>
        obtain ⟨k, hk, rfl, rfl, hS, hlt, hc0, hc1⟩ := hrel
        obtain ⟨q, hq1, hq2, hq3⟩ : ∃ q : Int, q = max z (Tr.most.mosts (t.kids.take k)) ∧ 0 ≤ q ∧ q ≤ 9223372036854775807 :=
          ⟨_, rfl, by omega, by have := HMB.out (t.kids.take k) (fun x hx => HKV.out x (List.mem_of_mem_take hx)); omega⟩
        rw [← hq1]
        have HQ := Lib.hid hq1; clear hq1
        by_cases hkn : k < n
        · obtain ⟨x, b, o, x0, x1, hx, hmem, rfl, hb, e0, e1, hxt⟩ := HK.out k hkn
          have e0' := hS.cell_of (p := ⟨b, o + k * 2, none⟩) trivial e0
          have e1' := hS.cell_of (p := ⟨b, o + k * 2 + 1, none⟩) trivial e1
          have hxs := Tr.mosts_take hx
          have hsm := Tr.sizes_mem hmem
          have hc := ih x hmem S wr x0 x1 (hxt.same hS) (by have := HSE.out; omega) (HKV.out x hmem)
          have hb2 : x.most ≤ 9223372036854775807 := by have := HMB.out [x] (by simpa using HKV.out x hmem); simp only [Tr.most.mosts] at this; omega
          have hb3 := x.most_nonneg
          have HXS := Lib.hid hxs; clear hxs
          have HX := Lib.hid hx; clear hx
          clear ih e0 e1 ht
          go_wp2_with (refine hc.mono ?_; rintro e w1 ⟨rfl, hS1⟩; have hc0' := hS1.cell_of trivial hc0; have hc1' := hS1.cell_of trivial hc1)
          all_goals
            go_roundw
            case rel =>
              refine ⟨k + 1, by omega, by go_num, ?_, hS.trans hS1, Nat.lt_of_lt_of_le hlt hS1.size, hc0', hc1'⟩
              rw [HXS.out]; have := HQ.out; congr 1; omega
            case measure => simp [intOf]; omega
        · go_wp2
          go_ret
          refine ⟨ret_int ?_, hS⟩
          have := HQ.out
          rw [HE.out, this, List.take_of_length_le (by rw [← HN.out]; omega)]

theorem fault_any (c n : Int) (w : World) : Calls Try.prog 60 #[.int .i64 c, .int .i64 n] w fun e w' => e = .returned (.agg #[.int .i64 c, .int .i64 n]) ∧ Same w w' := by
  go_enter Try.func60, Try.ntmps60
  go_wp2
  exact bodyPost_ret (v := .agg #[.int .i64 c, .int .i64 n]) (by simp [results, Try.results60, go_sem]) rfl ⟨rfl, by
    exact ((Keeps.refl _ w).alloc _)⟩
end Go.Proofs.Ytpokiglgjmcdoaa
