/-
  dia.Not.
-/
import Derived.Test.YtpokiglgjmcdoaaChk2
set_option linter.unusedVariables false
set_option linter.unusedSimpArgs false
namespace Go.Proofs.Ytpokiglgjmcdoaa
open Go.ChangeShapes Go.WideShapes Go.ChangeAt Go.RowKit Go.BigFrame Go.Shelf Go.Maps
open Um

theorem ChsAt.lt {S : Nat → Prop} {w : World} {v : Value} {cs : List Dia.Ch} (h : ChsAt S w v cs) : ChsAt (fun b => b < w.heap.size) w v cs := by
  obtain ⟨ao, cap, h1, h2⟩ := h
  refine ⟨ao, cap, h1, fun j c hc => ?_⟩
  obtain ⟨b, o, e, hb, h3, h4⟩ := h2 j c hc
  exact ⟨b, o, e, World.block_lt_of_cell? w ⟨b, o + j * 3, none⟩ h3, h3, h4⟩
theorem diaTab_eq (cs : List Dia.Ch) (root : Nat) : diaTab cs root = Dia.diaTab 6 (cs, root) := rfl
theorem diaTab_length (cs : List Dia.Ch) (root : Nat) : (Dia.diaTab 6 (cs, root)).length = 64 := Dia.tableL_length 6 _
theorem diaTab_bits (cs : List Dia.Ch) (root : Nat) : ∀ x ∈ Dia.diaTab 6 (cs, root), x < 2 := Dia.tableL_bits 6 _

/-- boxes of a call: the diagram, and the two results -/
structure Res (w : World) (u : Value) (root : Nat) (a b c : Nat) (wr : World) : Prop where
  same : Same w wr
  lo : w.heap.size ≤ a ∧ w.heap.size ≤ b ∧ w.heap.size ≤ c ∧ a ≠ b ∧ a ≠ c ∧ b ≠ c
  d : wr.heap[a]? = some (.cells #[u, .int .i64 (root : Int)] 45)
  r : wr.heap[b]? = some (.cells #[.slice none 0 0, .int .i64 0] 45)
  f : wr.heap[c]? = some (.cells #[.int .i64 0, .int .i64 0] 27)
theorem Res.after {w wr w' : World} {u : Value} {root a b c : Nat} (h : Res w u root a b c wr) (hk : Same wr w') : Res w u root a b c w' :=
  ⟨h.same.trans hk, h.lo, (hk.block _ trivial (Array.getElem?_eq_some_iff.1 h.d).1).trans h.d, (hk.block _ trivial (Array.getElem?_eq_some_iff.1 h.r).1).trans h.r, (hk.block _ trivial (Array.getElem?_eq_some_iff.1 h.f).1).trans h.f⟩
theorem Res.setCell {w wr : World} {u : Value} {root a b c g i : Nat} (h : Res w u root a b c wr) (hg : w.heap.size ≤ g ∧ g ≠ a ∧ g ≠ b ∧ g ≠ c) (v : Value) : Res w u root a b c (wr.setCell ⟨g, i, none⟩ v) := by
  have k : Keeps (fun k => k ≠ g) wr (wr.setCell ⟨g, i, none⟩ v) := (Keeps.refl _ wr).setCell (p := ⟨g, i, none⟩) (fun k hk _ => hk) _
  exact ⟨h.same.through k (fun j hj => by omega), h.lo, (k.block _ (Ne.symm hg.2.1) (Array.getElem?_eq_some_iff.1 h.d).1).trans h.d, (k.block _ (Ne.symm hg.2.2.1) (Array.getElem?_eq_some_iff.1 h.r).1).trans h.r, (k.block _ (Ne.symm hg.2.2.2) (Array.getElem?_eq_some_iff.1 h.f).1).trans h.f⟩
theorem res_start (w : World) (u : Value) (root : Nat) : Res w u root w.heap.size (w.heap.size + 1) (w.heap.size + 1 + 1) (((w.alloc (.cells #[u, .int .i64 (root : Int)] 45)).alloc (.cells #[.slice none 0 0, .int .i64 0] 45)).alloc (.cells #[.int .i64 0, .int .i64 0] 27)) := by
  obtain ⟨W1, h1⟩ : ∃ W1, W1 = w.alloc (.cells #[u, .int .i64 (root : Int)] 45) := ⟨_, rfl⟩
  have s1 : W1.heap.size = w.heap.size + 1 := by rw [h1]; simp
  rw [← h1]
  obtain ⟨W2, h2⟩ : ∃ W2, W2 = W1.alloc (.cells #[.slice none 0 0, .int .i64 0] 45) := ⟨_, rfl⟩
  have s2 : W2.heap.size = w.heap.size + 1 + 1 := by rw [h2]; simp [s1]
  rw [← h2]
  have k1 : Same w W1 := by rw [h1]; exact (Keeps.refl _ _).alloc _
  have k2 : Same W1 W2 := by rw [h2]; exact (Keeps.refl _ _).alloc _
  have k3 : Same W2 (W2.alloc (.cells #[.int .i64 0, .int .i64 0] 27)) := (Keeps.refl _ _).alloc _
  refine ⟨(k1.trans k2).trans k3, by omega, ?_, ?_, ?_⟩
  · have e : W1.heap[w.heap.size]? = some (.cells #[u, .int .i64 (root : Int)] 45) := by rw [h1]; exact heap_alloc_new w _
    exact ((k2.trans k3).block _ trivial (by omega)).trans e
  · have e : W2.heap[w.heap.size + 1]? = some (.cells #[.slice none 0 0, .int .i64 0] 45) := by rw [h2, ← s1]; exact heap_alloc_new W1 _
    exact (k3.block _ trivial (by omega)).trans e
  · rw [← s2]; exact heap_alloc_new W2 _

def notAt (t : List Nat) (i : Nat) : Nat := 1 - t.getD i 0
theorem notL_at {t : List Nat} (ht : t.length = 64) : Dia.notL t = (List.range 64).map (notAt t) := by
  apply List.ext_getElem?
  intro i
  unfold Dia.notL notAt
  rw [List.getElem?_map, List.getElem?_map]
  by_cases hi : i < 64
  · rw [List.getElem?_range hi, List.getElem?_eq_getElem (show i < t.length by omega)]
    simp [List.getD_eq_getElem?_getD, List.getElem?_eq_getElem (show i < t.length by omega)]
  · rw [List.getElem?_eq_none (show t.length ≤ i by omega), List.getElem?_eq_none (show (List.range 64).length ≤ i by rw [List.length_range]; omega)]; rfl
theorem notL_length (t : List Nat) : (Dia.notL t).length = t.length := by simp [Dia.notL]
theorem notL_bits (t : List Nat) : ∀ x ∈ Dia.notL t, x < 2 := by
  intro x hx
  obtain ⟨y, _, rfl⟩ := List.mem_map.1 hx
  omega
theorem getD_bit {t : List Nat} (tx : ∀ x ∈ t, x < 2) (j : Nat) : t.getD j 0 < 2 := by
  rw [List.getD_eq_getElem?_getD]
  cases h : t[j]? with
  | none => simp
  | some x => exact tx x (List.mem_of_getElem? h)

set_option maxHeartbeats 1600000 in
set_option maxRecDepth 100000 in
theorem not_any (d : List Dia.Ch × Nat) (hd : Dia.Good 6 d) (w : World) (u : Value) (hu : ChsAt (fun b => b < w.heap.size) w u d.1) :
    Calls Try.prog 26 #[.int .i64 6, .agg #[u, .int .i64 d.2]] w fun e w' => ∃ v, e = .returned (.tuple #[.agg #[v, .int .i64 ((Dia.built 6 (Dia.notL (Dia.diaTab 6 d))).2 : Int)], .agg #[.int .i64 0, .int .i64 0]]) ∧
      ChsAt (fun b => w.heap.size ≤ b) w' v (Dia.built 6 (Dia.notL (Dia.diaTab 6 d))).1 ∧ Same w w' := by
  obtain ⟨cs, root⟩ := d
  obtain ⟨hwf, hr, hfew, f, hv⟩ := hd
  simp only at hwf hr hfew hv hu
  have hl : cs.length ≤ 4000 := by have : (2 : Nat) ^ 6 = 64 := by decide
                                   omega
  have hat : ∀ W, Same w W → ChsAt (fun b => b < W.heap.size) W u cs := fun W hW => ChsAt.lt (hu.same hW)
  have hchk := fun W (hW : Same w W) => check_any cs root hwf hl hr f hv W u (hat W hW)
  have htab := fun W (hW : Same w W) => tableOf_any cs root hwf hr hl _ W u (hat W hW)
  rw [diaTab_eq] at htab
  have htl := diaTab_length cs root
  have htx := diaTab_bits cs root
  generalize Dia.diaTab 6 (cs, root) = t at *
  have hbuilt := fun W tv hrow => built_any W tv (Dia.notL t) ((notL_length t).trans htl) (notL_bits t) hrow
  generalize Dia.built 6 (Dia.notL t) = d' at *
  have HL := Lib.hid (notL_at htl)
  have HX := Lib.hid (getD_bit htx)
  have HT := Lib.hid htl
  have HC := Lib.hid hchk
  have HTB := Lib.hid htab
  have HBU := Lib.hid hbuilt
  have hst := res_start w u root
  have HST := Lib.hid hst
  clear hchk htab hbuilt htl htx hwf hr hfew hv hl hat hu hst
  go_enter Try.func26, Try.ntmps26
  go_wp2_with fail
  refine (HC.out _ HST.out.same).mono ?_
  rintro e w1 ⟨rfl, hS1⟩
  have hR1 := HST.out.after hS1
  obtain ⟨d0, d1, _, _⟩ := cells2 hR1.d
  have hl1 : w.heap.size < w1.heap.size := (Array.getElem?_eq_some_iff.1 hR1.d).1
  have hl3 : w.heap.size + 1 + 1 < w1.heap.size := (Array.getElem?_eq_some_iff.1 hR1.f).1
  have HR1 := Lib.hid hR1
  have HTB1 := Lib.hid (HTB.out (w1.alloc (.cells #[.int .i64 0, .int .i64 0] 27)) (hR1.same.alloc _))
  clear hS1 hR1
  go_wp2_with fail
  refine HTB1.out.mono ?_
  rintro e w2 ⟨tv, rfl, hown, hS2⟩
  obtain ⟨g, cap, rfl, hg0, hg1⟩ := hown.form (by omega)
  rw [← stage_zero HT.out (notAt t)] at hown
  have hR2 := (HR1.out.after ((Keeps.refl _ w1).alloc _)).after hS2
  have hgs : w1.heap.size < g := by simp at hg0; omega
  clear hS2 HR1 HTB1 d0 d1
  generalize (w1.alloc (.cells #[.int .i64 0, .int .i64 0] 27)).heap.size = B at *
  go_wp2
  go_loopw [22] (fun i wr => ∃ k : Nat, k ≤ 64 ∧ i = .int .i64 k ∧ wr.ownsRow B 5 1 (.slice (some ⟨g, 0, none⟩) 64 cap) 64 (u8s (stage t (notAt t) k)) ∧ Res w u root w.heap.size (w.heap.size + 1) (w.heap.size + 1 + 1) wr ∧ g < wr.heap.size) (fun i _ => 64 - (intOf i).toNat)
  case atStart => exact ⟨0, Nat.zero_le _, rfl, hown, hR2, hg1⟩
  case round =>
    clear hown hR2 hg1
    obtain ⟨k, hk, rfl, hown, hR, hg1⟩ := hrel
    by_cases hkn : k < 64
    · have hcell := hown.cellAt k (by omega)
      have hf := hown.frozenAt k
      rw [stage_get _ hkn, if_neg (by omega)] at hcell
      have hst := (hown.stored k (.int .u8 (notAt t k : Int))).1
      rw [stage_set _ hkn] at hst
      have HST := Lib.hid hst
      have hRe := Lib.hid (hR.setCell (g := g) (i := k) (by omega) (.int .u8 (notAt t k : Int)))
      have hto := HX.out k
      have HA : Hid (notAt t k = 1 - t.getD k 0) := Lib.hid rfl
      generalize hx : t.getD k 0 = x at *
      generalize hz : notAt t k = z at *
      clear hown hst hx hz hR
      obtain rfl | rfl : x = 0 ∨ x = 1 := by omega
      · obtain rfl : z = 1 := by rw [HA.out]
        clear HA
        go_wp2
        go_roundw
        case rel => exact ⟨k + 1, by omega, by go_num, HST.out, hRe.out, by simp; omega⟩
        case measure => simp [intOf]; omega
      · obtain rfl : z = 0 := by rw [HA.out]
        clear HA
        go_wp2
        go_roundw
        case rel => exact ⟨k + 1, by omega, by go_num, HST.out, hRe.out, by simp; omega⟩
        case measure => simp [intOf]; omega
    · obtain rfl : k = 64 := by omega
      rw [stage_full, ← HL.out] at hown
      have hrow := (rowAt_of_owns hown).mono (T := fun _ => True) (fun _ _ _ => trivial)
      have HB2 := Lib.hid (HBU.out wr _ hrow)
      have HR := Lib.hid hR
      clear hown hrow hR
      go_wp2_with fail
      refine HB2.out.mono ?_
      rintro e w3 ⟨v, rfl, hch, hS3⟩
      have hR3 := HR.out.after hS3
      obtain ⟨p1, p2, p3, p4⟩ := cells2 hR3.r
      obtain ⟨q1, q2, q3, q4⟩ := cells2 hR3.f
      obtain ⟨ao, cap', hv, hat⟩ := hch
      subst hv
      have HAT := Lib.hid hat
      have HS3 := Lib.hid hR3.same
      have hsz : w.heap.size + 1 + 1 < wr.heap.size := (Array.getElem?_eq_some_iff.1 HR.out.f).1
      obtain ⟨cs', root'⟩ := d'
      simp only at HAT ⊢
      obtain ⟨len, hlen⟩ : ∃ len, len = cs'.length := ⟨_, rfl⟩
      have HLEN := Lib.hid hlen
      rw [← hlen]
      clear hat hR3 hS3 hlen
      go_wp2
      refine bodyPost_ret (v := .tuple #[.agg #[.slice ao len cap', .int .i64 (root' : Int)], .agg #[.int .i64 0, .int .i64 0]]) (by simp [results, Try.results26, go_sem, p1, p2, q1, q2]) rfl ⟨_, rfl, ?_, ?_⟩
      · rw [HLEN.out]
        have h : ChsAt (fun b => wr.heap.size ≤ b) w3 (.slice ao cs'.length cap') cs' := ⟨ao, cap', rfl, HAT.out⟩
        refine (h.keeps (T := fun b => w.heap.size + 1 + 1 < b) ?_ fun b hb => by omega).mono fun b hb => by omega
        exact keeps_two (S := fun b => w.heap.size + 1 + 1 < b) w3 _ _ _ _ _ _ (fun k (hk : w.heap.size + 1 + 1 < k) => by omega) (fun k (hk : w.heap.size + 1 + 1 < k) => by omega)
      · refine Same.through HS3.out (S := fun b => b < w.heap.size) ?_ (fun b hb => hb)
        exact keeps_two (S := fun b => b < w.heap.size) w3 _ _ _ _ _ _ (fun k (hk : k < w.heap.size) => by omega) (fun k (hk : k < w.heap.size) => by omega)
end Go.Proofs.Ytpokiglgjmcdoaa
