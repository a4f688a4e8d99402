/-
  The program's tree, first part: Size, Deep, slices.IndexFunc and slices.ContainsFunc at terms.
-/
import Derived.Test.YtpokiglgjmcdoaaRef6
import Derived.Shelf.Abstract
set_option linter.unusedVariables false
set_option linter.unusedSimpArgs false
namespace Um.Tr
/-- the size, counted up to a limit -/
def sizeU : Tr → Int → Int
  | .mk _ ks, m => sizeUs ks m 1
where sizeUs : List Tr → Int → Int → Int
  | [], _, n => n
  | k :: ks, m, n => if n > m then n else sizeUs ks m (n + k.sizeU (m - n))
theorem sizeU_eq (t : Tr) (m : Int) : t.sizeU m = sizeU.sizeUs t.kids m 1 := by cases t; rfl
theorem sizeU_spec (t : Tr) : ∀ m : Int, 0 ≤ m → (t.size ≤ m → t.sizeU m = t.size) ∧ (m < t.size → m < t.sizeU m) ∧ 1 ≤ t.sizeU m ∧ t.sizeU m ≤ t.size := by
  induction t using ind with
  | step t ih =>
    intro m hm
    have : ∀ l : List Tr, (∀ k ∈ l, k ∈ t.kids) → ∀ n : Int, 1 ≤ n → (n + size.sizes l ≤ m → sizeU.sizeUs l m n = n + size.sizes l) ∧ (m < n + size.sizes l → m < sizeU.sizeUs l m n) ∧ n ≤ sizeU.sizeUs l m n ∧ sizeU.sizeUs l m n ≤ n + size.sizes l := by
      intro l
      induction l with
      | nil => intro _ n _; simp [sizeU.sizeUs, size.sizes]
      | cons a l ihl =>
        intro hl n hn
        simp only [sizeU.sizeUs, size.sizes]
        split
        · refine ⟨fun h => ?_, fun h => by omega, by omega, by omega⟩
          have := a.size_pos; omega
        · have h1 := ih a (hl a (by simp)) (m - n) (by omega)
          have h2 := ihl (fun k hk => hl k (by simp [hk])) (n + a.sizeU (m - n)) (by omega)
          have := a.size_pos
          refine ⟨fun h => ?_, fun h => ?_, by omega, by omega⟩
          · rw [h2.1 (by omega), h1.1 (by omega)]; omega
          · by_cases hc : (a.size : Int) ≤ m - n
            · exact h2.2.1 (by rw [h1.1 hc]; omega)
            · have := h1.2.1 (by omega); omega
    have h := this t.kids (fun k hk => hk) 1 (by omega)
    have hse := size_eq t
    rw [sizeU_eq]
    refine ⟨fun h' => ?_, fun h' => h.2.1 (by omega), h.2.2.1, by omega⟩
    rw [h.1 (by omega)]; omega
theorem sizeUs_drop {ks : List Tr} {k : Nat} {x : Tr} (h : ks[k]? = some x) (m n : Int) : sizeU.sizeUs (ks.drop k) m n = if n > m then n else sizeU.sizeUs (ks.drop (k + 1)) m (n + x.sizeU (m - n)) := by
  rw [drop_cons h, sizeU.sizeUs]

/-- is the depth at most a number? -/
def deepOk : Tr → Int → Bool
  | .mk _ ks, m => decide (0 < m) && deepOks ks (m - 1)
where deepOks : List Tr → Int → Bool
  | [], _ => true
  | k :: ks, m => k.deepOk m && deepOks ks m
theorem deepOk_eq (t : Tr) (m : Int) : t.deepOk m = (decide (0 < m) && t.kids.all (fun k => k.deepOk (m - 1))) := by
  cases t with
  | mk h ks =>
    simp only [deepOk, kids_mk]
    congr 1
    induction ks with
    | nil => rfl
    | cons a l ih => simp [deepOk.deepOks, ih]
theorem deepOk_iff (t : Tr) : ∀ m : Int, t.deepOk m = decide ((t.deep : Int) ≤ m) := by
  induction t using ind with
  | step t ih =>
    intro m
    rw [deepOk_eq, deep_eq, Bool.eq_iff_iff]
    simp only [Bool.and_eq_true, decide_eq_true_eq, List.all_eq_true]
    have : (∀ k ∈ t.kids, k.deepOk (m - 1) = true) ↔ ((t.kids = [] ∨ (deep.deeps t.kids : Int) ≤ m - 1)) := by
      have h0 : ∀ k ∈ t.kids, (k.deepOk (m - 1) = true ↔ (k.deep : Int) ≤ m - 1) := fun k hk => by rw [ih k hk]; simp
      generalize t.kids = l at h0
      induction l with
      | nil => simp
      | cons a l ihl =>
        have h1 := h0 a (by simp)
        have h2 := ihl (fun k hk => h0 k (by simp [hk]))
        simp only [List.mem_cons, forall_eq_or_imp, h1, h2, deep.deeps]
        cases l with
        | nil => simp [deep.deeps]
        | cons b l => simp; omega
    rw [this]
    have hz : t.kids = [] → deep.deeps t.kids = 0 := fun h => by rw [h]; rfl
    constructor
    · rintro ⟨h1, h2 | h2⟩
      · have := hz h2; omega
      · omega
    · intro h
      exact ⟨by omega, .inr (by omega)⟩
end Um.Tr
namespace Go.Proofs.Ytpokiglgjmcdoaa
open Go.ChangeShapes Go.WideShapes Go.ChangeAt Go.RowKit Go.BigFrame
open Um

set_option maxHeartbeats 1000000 in
theorem tsize_any (t : Tr) : ∀ (m : Int) (S : Nat → Prop) (w : World) (c0 c1 : Value), TrAt S w t c0 c1 → t.size ≤ 2097152 → 0 ≤ m ∧ m ≤ 4194304 →
    Calls Try.prog 114 #[.agg #[c0, c1], .int .i64 m] w fun e w' => e = .returned (.int .i64 (t.sizeU m)) ∧ Same w w' := by
  induction t using Tr.ind with
  | step t ih =>
    intro m S w c0 c1 ht hsz hm
    obtain ⟨rfl, hi, a, n, cap, hn, rfl, hkids⟩ := trAt_iff.1 ht
    have hse := Tr.size_eq t
    have hls := length_le_sizes t.kids
    have hnb : n ≤ 2097152 := by omega
    have HK : Hid (∀ k, k < n → _) := fun k hk => kid_at hn hkids hk
    have HN := Lib.hid hn; clear hn
    have HSE := Lib.hid hse; clear hse hkids
    have HEQ := Lib.hid (Tr.sizeU_eq t m)
    go_enter Try.func114, Try.ntmps114
    go_wp2
    go_loopw [5, 11] (fun s i wr => ∃ k : Nat, ∃ q : Int, k ≤ n ∧ i = .int .i64 k ∧ s = .int .i64 q ∧ 1 ≤ q ∧ q + Tr.size.sizes (t.kids.drop k) ≤ 2097152 ∧ Tr.sizeU.sizeUs (t.kids.drop k) m q = t.sizeU m ∧ Same w wr ∧ w.heap.size < wr.heap.size) (fun _ i _ => n - (intOf i).toNat)
    case atStart =>
      refine ⟨0, 1, Nat.zero_le _, rfl, rfl, by omega, by have := HSE.out; simp; omega, HEQ.out.symm, (Keeps.refl _ w).alloc _, by simp⟩
    case round =>
      obtain ⟨k, q, hk, rfl, rfl, hq1, hq2, hrest, hS, hlt⟩ := hrel
      by_cases hkn : k < n
      · obtain ⟨x, b, o, x0, x1, hx, hmem, rfl, hb, e0, e1, hxt⟩ := HK.out k hkn
        have hxt0 := hxt
        obtain ⟨rfl, hxi, xa, xn, xcap, hxn, rfl, hxk⟩ := trAt_iff.1 hxt
        have e0' := hS.cell_of (p := ⟨b, o + k * 2, none⟩) trivial e0
        have e1' := hS.cell_of (p := ⟨b, o + k * 2 + 1, none⟩) trivial e1
        have hdr := Tr.sizeUs_drop hx m q
        have hsm := Tr.sizes_mem hmem
        have hsd : Tr.size.sizes (t.kids.drop k) = x.size + Tr.size.sizes (t.kids.drop (k + 1)) := by rw [Tr.drop_cons hx]; rfl
        have HX := Lib.hid hx; clear hx
        have HXN := Lib.hid hxn; clear hxn hxk
        rw [hrest] at hdr
        by_cases hqm : m < q
        · rw [if_pos hqm] at hdr
          have HD := Lib.hid hdr; clear hdr hrest ih
          go_wp2
          go_ret
          exact ⟨ret_int HD.out.symm, hS.alloc _⟩
        · rw [if_neg hqm] at hdr
          have hsp := Tr.sizeU_spec x (m - q) (by omega)
          have hb1 : 1 ≤ x.sizeU (m - q) := hsp.2.2.1
          have hb2 : q + x.sizeU (m - q) + Tr.size.sizes (t.kids.drop (k + 1)) ≤ 2097152 := by have := hsp.2.2.2; omega
          have hb3 : q + x.sizeU (m - q) ≤ 2097152 := by omega
          have HD := Lib.hid hdr
          have HRST := Lib.hid hrest
          clear hdr hrest hsp hsd
          have hc := fun W (hW : Same w W) => ih x hmem (m - q) S W _ _ (hxt0.same hW) (by have := HSE.out; omega) (by omega)
          clear ih
          go_wp2_with fail
          refine (hc _ (hS.alloc _)).mono ?_
          rintro e w1 ⟨rfl, hS1⟩
          go_wp2
          go_roundw
          case rel =>
            refine ⟨k + 1, q + x.sizeU (m - q), by omega, by go_num, rfl, by omega, hb2, HD.out.symm, (hS.alloc _).trans hS1, ?_⟩
            have := hS1.size; simp at this; omega
          case measure => simp [intOf]; omega
      · go_wp2
        go_ret
        refine ⟨ret_int ?_, hS⟩
        rw [← hrest, List.drop_of_length_le (by rw [← HN.out]; omega)]; rfl

/-- the place of the first that meets a test -/
def firstIdx {α : Type} (p : α → Bool) : List α → Int → Int
  | [], _ => -1
  | x :: l, i => if p x then i else firstIdx p l (i + 1)
theorem firstIdx_lt {α : Type} (p : α → Bool) (l : List α) : ∀ i : Int, 0 ≤ i → (firstIdx p l i = -1 ∧ l.any p = false) ∨ (i ≤ firstIdx p l i ∧ firstIdx p l i < i + l.length ∧ l.any p = true) := by
  induction l with
  | nil => intro i _; left; simp [firstIdx]
  | cons x l ih =>
    intro i hi
    simp only [firstIdx]
    cases hx : p x
    · rcases ih (i + 1) (by omega) with ⟨h1, h2⟩ | ⟨h1, h2, h3⟩
      · left; simp [h1, hx, h2]
      · right; simp only [hx, Bool.false_eq_true, if_false, List.any_cons, Bool.false_or, List.length_cons]; exact ⟨by omega, by omega, h3⟩
    · right; simp [hx]; omega
theorem firstIdx_drop {α : Type} (p : α → Bool) {l : List α} {k : Nat} {x : α} (h : l[k]? = some x) (i : Int) : firstIdx p (l.drop k) i = if p x then i else firstIdx p (l.drop (k + 1)) (i + 1) := by
  obtain ⟨h1, rfl⟩ := List.getElem?_eq_some_iff.1 h
  rw [List.drop_eq_getElem_cons h1, firstIdx]

theorem index_tree (g : Nat) (cap : Array Value) (hg : Enters Try.prog g) (p : Tr → Bool) (t : Tr) (S : Nat → Prop) (w : World) (a : Option Addr) (n c : Nat) (hn : n = t.kids.length) (hnb : n ≤ 2097152)
    (hkids : ∀ k, k < n → ∃ x b o c0 c1, t.kids[k]? = some x ∧ x ∈ t.kids ∧ a = some ⟨b, o, none⟩ ∧ S b ∧ w.cell? ⟨b, o + k * 2, none⟩ = some c0 ∧ w.cell? ⟨b, o + k * 2 + 1, none⟩ = some c1 ∧ TrAt S w x c0 c1)
    (hp : ∀ x c0 c1 A, x ∈ t.kids → TrAt S A x c0 c1 → Same w A → Calls Try.prog g (#[.agg #[c0, c1]] ++ cap) A fun e w' => e = .returned (.bool (p x)) ∧ Same A w') :
    Calls Try.prog 212 #[.slice a n c, .func (.func g) #[] cap] w fun e w' => e = .returned (.int .i64 (firstIdx p t.kids 0)) ∧ Same w w' := by
  have HK := Lib.hid hkids
  have HN := Lib.hid hn
  have HP := Lib.hid hp
  clear hkids hn hp
  have hent : ∀ (x : Value) (W : World), (callFunc g (#[x] ++ cap)).run Try.prog W = .ok (.enter g (#[x] ++ cap)) W := fun x W => hg _ W
  go_enter Try.func212, Try.ntmps212
  go_wp2
  go_loopw [8] (fun i wr => ∃ k : Nat, k ≤ n ∧ i = .int .i64 k ∧ firstIdx p (t.kids.drop k) k = firstIdx p t.kids 0 ∧ Same w wr) (fun i _ => n - (intOf i).toNat)
  case atStart => exact ⟨0, Nat.zero_le _, rfl, rfl, Keeps.refl _ w⟩
  case round =>
    obtain ⟨k, hk, rfl, hrest, hS⟩ := hrel
    by_cases hkn : k < n
    · obtain ⟨x, b, o, x0, x1, hx, hmem, rfl, hb, e0, e1, hxt⟩ := HK.out k hkn
      have e0' := hS.cell_of (p := ⟨b, o + k * 2, none⟩) trivial e0
      have e1' := hS.cell_of (p := ⟨b, o + k * 2 + 1, none⟩) trivial e1
      have hdr := firstIdx_drop p hx k
      rw [hrest] at hdr
      have hc := HP.out x x0 x1 wr hmem (hxt.same hS) hS
      have HX := Lib.hid hx; clear hx e0 e1
      cases hpx : p x
      · rw [hpx] at hdr hc
        have HD := Lib.hid hdr
        clear hdr hrest hpx
        go_wp2_with fail
        refine hc.mono ?_
        rintro e w1 ⟨rfl, hS1⟩
        go_wp2
        go_roundw
        case rel => exact ⟨k + 1, by omega, by go_num, by rw [HD.out]; simp, hS.trans hS1⟩
        case measure => simp [intOf]; omega
      · rw [hpx] at hdr hc
        have HD := Lib.hid hdr
        clear hdr hrest hpx
        go_wp2_with fail
        refine hc.mono ?_
        rintro e w1 ⟨rfl, hS1⟩
        go_wp2
        go_ret
        exact ⟨ret_int (by rw [HD.out]; simp), hS.trans hS1⟩
    · go_wp2
      go_ret
      refine ⟨ret_int ?_, hS⟩
      rw [← hrest, List.drop_of_length_le (by rw [← HN.out]; omega)]; rfl

theorem contains_tree (g : Nat) (cap : Array Value) (hg : Enters Try.prog g) (p : Tr → Bool) (t : Tr) (S : Nat → Prop) (w : World) (a : Option Addr) (n c : Nat) (hn : n = t.kids.length) (hnb : n ≤ 2097152)
    (hkids : ∀ k, k < n → ∃ x b o c0 c1, t.kids[k]? = some x ∧ x ∈ t.kids ∧ a = some ⟨b, o, none⟩ ∧ S b ∧ w.cell? ⟨b, o + k * 2, none⟩ = some c0 ∧ w.cell? ⟨b, o + k * 2 + 1, none⟩ = some c1 ∧ TrAt S w x c0 c1)
    (hp : ∀ x c0 c1 A, x ∈ t.kids → TrAt S A x c0 c1 → Same w A → Calls Try.prog g (#[.agg #[c0, c1]] ++ cap) A fun e w' => e = .returned (.bool (p x)) ∧ Same A w') :
    Calls Try.prog 176 #[.slice a n c, .func (.func g) #[] cap] w fun e w' => e = .returned (.bool (t.kids.any p)) ∧ Same w w' := by
  have hc := index_tree g cap hg p t S w a n c hn hnb hkids hp
  have hb := firstIdx_lt p t.kids 0 (by omega)
  clear hkids hp
  obtain ⟨q, hq⟩ : ∃ q, q = firstIdx p t.kids 0 := ⟨_, rfl⟩
  rw [← hq] at hc hb
  have HB := Lib.hid hb
  clear hb hq hn
  go_enter Try.func176, Try.ntmps176
  go_wp2_with fail
  refine hc.mono ?_
  rintro e w1 ⟨rfl, hS1⟩
  go_wp2
  go_ret
  refine ⟨ret_bool ?_, hS1⟩
  rcases HB.out with ⟨h1, h2⟩ | ⟨h1, h2, h3⟩
  · rw [h2]; simp [h1]
  · rw [h3]; simp [h1]
end Go.Proofs.Ytpokiglgjmcdoaa
