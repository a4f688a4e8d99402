/-
  slices.ContainsFunc at []int and at [][]int; cnf.True, Sat, All.
-/
import Derived.Test.YtpokiglgjmcdoaaCnf
import Derived.Test.YtpokiglgjmcdoaaTree1
set_option linter.unusedVariables false
set_option linter.unusedSimpArgs false
namespace Go.Proofs.Ytpokiglgjmcdoaa
open Go.ChangeShapes Go.WideShapes Go.ChangeAt Go.RowKit Go.BigFrame Go.Shelf
open Um

theorem row_cases {S : Nat → Prop} {w : World} {v : Value} {l : List Value} (h : RowAt S w v l) : ∃ (ao : Option Addr) (cap : Nat), v = .slice ao l.length cap ∧ l.length ≤ 9223372036854775807 ∧
    ∀ k, k < l.length → ∃ b o x, ao = some ⟨b, o, none⟩ ∧ l[k]? = some x ∧ w.cell? ⟨b, o + k, none⟩ = some x ∧ S b := by
  rcases h with ⟨⟨a, cap, h1, h3⟩, rfl⟩ | ⟨b, o, cap, h1, h2, h3, h4, h5, h6⟩
  · exact ⟨a, cap, h1, by simp, fun k hk => by simp at hk⟩
  · exact ⟨_, cap, h1, Nat.le_trans h2 h3, fun k hk => ⟨b, o, _, rfl, List.getElem?_eq_getElem hk, h6 k _ (List.getElem?_eq_getElem hk), h4⟩⟩

theorem contains_int_index (g : Nat) (cap : Array Value) (hg : Enters Try.prog g) (bs : List Bool) (l : List Value) (S : Nat → Prop) (w : World) (v : Value) (hl : RowAt S w v l) (hlb : l.length = bs.length) (hn : l.length ≤ 4194304)
    (hp : ∀ (j : Nat) (x : Value) (b : Bool) (A : World), l[j]? = some x → bs[j]? = some b → Same w A → Calls Try.prog g (#[x] ++ cap) A fun e w' => e = .returned (.bool b) ∧ Same A w') :
    Calls Try.prog 208 #[v, .func (.func g) #[] cap] w fun e w' => e = .returned (.int .i64 (firstIdx id bs 0)) ∧ Same w w' := by
  obtain ⟨ao, c, rfl, _, hcs⟩ := row_cases hl
  obtain ⟨n, hn'⟩ : ∃ n, n = l.length := ⟨_, rfl⟩
  rw [← hn'] at hn hlb hcs
  rw [← hn']
  have HC := Lib.hid hcs
  have HP := Lib.hid hp
  have HLB := Lib.hid hlb
  clear hcs hp hl hlb hn'
  have hent : ∀ (x : Value) (W : World), (callFunc g (#[x] ++ cap)).run Try.prog W = .ok (.enter g (#[x] ++ cap)) W := fun x W => hg _ W
  go_enter Try.func208, Try.ntmps208
  go_wp2
  go_loopw [8] (fun i wr => ∃ k : Nat, k ≤ n ∧ i = .int .i64 k ∧ Hid (firstIdx id (bs.drop k) k = firstIdx id bs 0) ∧ Same w wr) (fun i _ => n - (intOf i).toNat)
  case atStart => exact ⟨0, Nat.zero_le _, rfl, Lib.hid rfl, Keeps.refl _ w⟩
  case round =>
    obtain ⟨k, hk, rfl, hrest, hS⟩ := hrel
    by_cases hkn : k < n
    · obtain ⟨b, o, x, rfl, hx, e0, _⟩ := HC.out k hkn
      obtain ⟨bb, hbb⟩ : ∃ bb, bs[k]? = some bb := ⟨_, List.getElem?_eq_getElem (by rw [← HLB.out]; exact hkn)⟩
      have e0' := hS.cell_of (p := ⟨b, o + k, none⟩) trivial e0
      have hdr := firstIdx_drop id hbb k
      rw [hrest.out] at hdr
      have hc := HP.out k x bb wr hx hbb hS
      clear e0 hx hbb hrest
      cases bb
      · have HD := Lib.hid hdr
        clear hdr
        go_wp2_with fail
        refine hc.mono ?_
        rintro e w1 ⟨rfl, hS1⟩
        go_wp2
        go_roundw
        case rel => exact ⟨k + 1, by omega, by go_num, Lib.hid (by rw [HD.out]; simp), hS.trans hS1⟩
        case measure => simp [intOf]; omega
      · have HD := Lib.hid hdr
        clear hdr
        go_wp2_with fail
        refine hc.mono ?_
        rintro e w1 ⟨rfl, hS1⟩
        go_wp2
        go_ret
        exact ⟨ret_int (by rw [HD.out]; simp), hS.trans hS1⟩
    · go_wp2
      go_ret
      refine ⟨ret_int ?_, hS⟩
      rw [← hrest.out, List.drop_of_length_le (by rw [← HLB.out]; omega)]; rfl
theorem contains_int_any (g : Nat) (cap : Array Value) (hg : Enters Try.prog g) (bs : List Bool) (l : List Value) (S : Nat → Prop) (w : World) (v : Value) (hl : RowAt S w v l) (hlb : l.length = bs.length) (hn : l.length ≤ 4194304)
    (hp : ∀ (j : Nat) (x : Value) (b : Bool) (A : World), l[j]? = some x → bs[j]? = some b → Same w A → Calls Try.prog g (#[x] ++ cap) A fun e w' => e = .returned (.bool b) ∧ Same A w') :
    Calls Try.prog 160 #[v, .func (.func g) #[] cap] w fun e w' => e = .returned (.bool (bs.any id)) ∧ Same w w' := by
  have hc := contains_int_index g cap hg bs l S w v hl hlb hn hp
  have hb := firstIdx_lt id bs 0 (by omega)
  rw [← hlb] at hb
  clear hl hp
  obtain ⟨q, hq⟩ : ∃ q, q = firstIdx id bs 0 := ⟨_, rfl⟩
  rw [← hq] at hc hb
  have HB := Lib.hid hb
  clear hb hq
  go_enter Try.func160, Try.ntmps160
  go_wp2_with fail
  refine hc.mono ?_
  rintro e w1 ⟨rfl, hS1⟩
  go_wp2
  go_ret
  refine ⟨ret_bool ?_, hS1⟩
  rcases HB.out with ⟨h1, h2⟩ | ⟨h1, h2, h3⟩
  · rw [h2]; simp [h1]
  · rw [h3]; simp [h1]
theorem contains_cls_index (g : Nat) (cap : Array Value) (hg : Enters Try.prog g) (bs : List Bool) (l : List Value) (S : Nat → Prop) (w : World) (v : Value) (hl : RowAt S w v l) (hlb : l.length = bs.length) (hn : l.length ≤ 4194304)
    (hp : ∀ (j : Nat) (x : Value) (b : Bool) (A : World), l[j]? = some x → bs[j]? = some b → Same w A → Calls Try.prog g (#[x] ++ cap) A fun e w' => e = .returned (.bool b) ∧ Same A w') :
    Calls Try.prog 180 #[v, .func (.func g) #[] cap] w fun e w' => e = .returned (.int .i64 (firstIdx id bs 0)) ∧ Same w w' := by
  obtain ⟨ao, c, rfl, _, hcs⟩ := row_cases hl
  obtain ⟨n, hn'⟩ : ∃ n, n = l.length := ⟨_, rfl⟩
  rw [← hn'] at hn hlb hcs
  rw [← hn']
  have HC := Lib.hid hcs
  have HP := Lib.hid hp
  have HLB := Lib.hid hlb
  clear hcs hp hl hlb hn'
  have hent : ∀ (x : Value) (W : World), (callFunc g (#[x] ++ cap)).run Try.prog W = .ok (.enter g (#[x] ++ cap)) W := fun x W => hg _ W
  go_enter Try.func180, Try.ntmps180
  go_wp2
  go_loopw [8] (fun i wr => ∃ k : Nat, k ≤ n ∧ i = .int .i64 k ∧ Hid (firstIdx id (bs.drop k) k = firstIdx id bs 0) ∧ Same w wr) (fun i _ => n - (intOf i).toNat)
  case atStart => exact ⟨0, Nat.zero_le _, rfl, Lib.hid rfl, Keeps.refl _ w⟩
  case round =>
    obtain ⟨k, hk, rfl, hrest, hS⟩ := hrel
    by_cases hkn : k < n
    · obtain ⟨b, o, x, rfl, hx, e0, _⟩ := HC.out k hkn
      obtain ⟨bb, hbb⟩ : ∃ bb, bs[k]? = some bb := ⟨_, List.getElem?_eq_getElem (by rw [← HLB.out]; exact hkn)⟩
      have e0' := hS.cell_of (p := ⟨b, o + k, none⟩) trivial e0
      have hdr := firstIdx_drop id hbb k
      rw [hrest.out] at hdr
      have hc := HP.out k x bb wr hx hbb hS
      clear e0 hx hbb hrest
      cases bb
      · have HD := Lib.hid hdr
        clear hdr
        go_wp2_with fail
        refine hc.mono ?_
        rintro e w1 ⟨rfl, hS1⟩
        go_wp2
        go_roundw
        case rel => exact ⟨k + 1, by omega, by go_num, Lib.hid (by rw [HD.out]; simp), hS.trans hS1⟩
        case measure => simp [intOf]; omega
      · have HD := Lib.hid hdr
        clear hdr
        go_wp2_with fail
        refine hc.mono ?_
        rintro e w1 ⟨rfl, hS1⟩
        go_wp2
        go_ret
        exact ⟨ret_int (by rw [HD.out]; simp), hS.trans hS1⟩
    · go_wp2
      go_ret
      refine ⟨ret_int ?_, hS⟩
      rw [← hrest.out, List.drop_of_length_le (by rw [← HLB.out]; omega)]; rfl
theorem contains_cls_any (g : Nat) (cap : Array Value) (hg : Enters Try.prog g) (bs : List Bool) (l : List Value) (S : Nat → Prop) (w : World) (v : Value) (hl : RowAt S w v l) (hlb : l.length = bs.length) (hn : l.length ≤ 4194304)
    (hp : ∀ (j : Nat) (x : Value) (b : Bool) (A : World), l[j]? = some x → bs[j]? = some b → Same w A → Calls Try.prog g (#[x] ++ cap) A fun e w' => e = .returned (.bool b) ∧ Same A w') :
    Calls Try.prog 120 #[v, .func (.func g) #[] cap] w fun e w' => e = .returned (.bool (bs.any id)) ∧ Same w w' := by
  have hc := contains_cls_index g cap hg bs l S w v hl hlb hn hp
  have hb := firstIdx_lt id bs 0 (by omega)
  rw [← hlb] at hb
  clear hl hp
  obtain ⟨q, hq⟩ : ∃ q, q = firstIdx id bs 0 := ⟨_, rfl⟩
  rw [← hq] at hc hb
  have HB := Lib.hid hb
  clear hb hq
  go_enter Try.func120, Try.ntmps120
  go_wp2_with fail
  refine hc.mono ?_
  rintro e w1 ⟨rfl, hS1⟩
  go_wp2
  go_ret
  refine ⟨ret_bool ?_, hS1⟩
  rcases HB.out with ⟨h1, h2⟩ | ⟨h1, h2, h3⟩
  · rw [h2]; simp [h1]
  · rw [h3]; simp [h1]

/-- a literal under an assignment -/
def litTrue (a : List Bool) (l : Int) : Bool := a.getD (l.natAbs - 1) false == decide (0 < l)
def satL (a : List Bool) (p : List Int) : Bool := (p.map (litTrue a)).any id
def allL (a : List Bool) (cls : List (List Int)) : Bool := !((cls.map fun p => !satL a p).any id)

theorem true_any (a : List Bool) (l : Int) (S : Nat → Prop) (w : World) (v : Value) (hv : RowAt S w v (a.map Value.bool)) (h1 : 1 ≤ l.natAbs) (h2 : l.natAbs ≤ a.length) (h3 : a.length ≤ 1000) :
    Calls Try.prog 182 #[.int .i64 l, v] w fun e w' => e = .returned (.bool (litTrue a l)) ∧ Same w w' := by
  obtain ⟨ao, c, rfl, _, hcs⟩ := row_cases hv
  simp only [List.length_map] at hcs
  obtain ⟨b, o, x, rfl, hx, hcell, _⟩ := hcs (l.natAbs - 1) (by omega)
  obtain ⟨n, hn⟩ : ∃ n, n = a.length := ⟨_, rfl⟩
  obtain ⟨bv, hbv⟩ : ∃ bv, a[l.natAbs - 1]? = some bv := ⟨_, List.getElem?_eq_getElem (by omega)⟩
  have hxb : x = .bool bv := by simpa [hbv] using hx.symm
  subst hxb
  have HR : Hid (litTrue a l = (bv == decide (0 < l))) := by unfold litTrue; rw [List.getD_eq_getElem?_getD, hbv]; exact rfl
  rw [List.length_map, ← hn]
  rw [← hn] at h2 h3
  have hc := fun W => cvar_any l (by omega) W
  obtain ⟨q, hq⟩ : ∃ q, q = l.natAbs := ⟨_, rfl⟩
  rw [← hq] at hcell h1 h2
  rw [← hq] at hc
  clear hcs hv hx hbv hq hn
  obtain ⟨r, rfl⟩ : ∃ r, q = r + 1 := ⟨q - 1, by omega⟩
  rw [Nat.add_sub_cancel] at hcell
  go_enter Try.func182, Try.ntmps182
  go_wp2_with fail
  refine (hc _).mono ?_
  rintro e w1 ⟨rfl, rfl⟩
  go_wp2
  go_ret
  exact ⟨ret_bool HR.out.symm, Keeps.refl _ _⟩

/-- the clauses fit an assignment of n variables -/
def fits (n : Nat) (p : List Int) : Prop := p.length ≤ 1000 ∧ ∀ l ∈ p, 1 ≤ l.natAbs ∧ l.natAbs ≤ n

theorem sat_any (a : List Bool) (p : List Int) (S : Nat → Prop) (w : World) (v u : Value) (hv : RowAt S w v (a.map Value.bool)) (hu : RowAt S w u (p.map (Value.int .i64))) (hf : fits a.length p) (h3 : a.length ≤ 1000) :
    Calls Try.prog 122 #[u, v] w fun e w' => e = .returned (.bool (satL a p)) ∧ Same w w' := by
  obtain ⟨ao, c, rfl, hcl, hcs⟩ := row_cases hv
  have hS0 : Same w (w.alloc (.cells #[.slice ao (a.map Value.bool).length c] 55)) := (Keeps.refl _ w).alloc _
  have hone : ∀ (j : Nat) (x : Value) (b : Bool) (A : World), (p.map (Value.int .i64))[j]? = some x → (p.map (litTrue a))[j]? = some b → Same (w.alloc (.cells #[.slice ao (a.map Value.bool).length c] 55)) A →
      Calls Try.prog 181 (#[x] ++ #[.pointer (some ⟨w.heap.size, 0, none⟩)]) A fun e w' => e = .returned (.bool b) ∧ Same A w' := by
    intro j x b A hx hb hA
    simp only [List.getElem?_map, Option.map_eq_some_iff] at hx hb
    obtain ⟨l, hl, rfl⟩ := hx
    obtain ⟨l', hl', rfl⟩ := hb
    obtain rfl : l = l' := by rw [hl] at hl'; cases hl'; rfl
    have hcell : A.cell? ⟨w.heap.size, 0, none⟩ = some (.slice ao (a.map Value.bool).length c) := hA.cell_of trivial (by simp)
    have hbd := hf.2 l (List.mem_of_getElem? hl)
    have hc := true_any a l S A (.slice ao (a.map Value.bool).length c) (hv.same (hS0.trans hA)) hbd.1 hbd.2 h3
    obtain ⟨n, hn⟩ : ∃ n, n = (a.map Value.bool).length := ⟨_, rfl⟩
    rw [← hn] at hc hcell
    clear hv hu hf hcs hA hS0 hn hl hl'
    go_enter Try.func181, Try.ntmps181
    go_wp2_with fail
    refine hc.mono ?_
    rintro e w1 ⟨rfl, hS1⟩
    go_wp2
    go_ret
    exact ⟨rfl, hS1⟩
  have hc := contains_int_any 181 #[.pointer (some ⟨w.heap.size, 0, none⟩)] (enters_of Try.func181 (by kernel_rfl) rfl) (p.map (litTrue a)) (p.map (Value.int .i64)) S _ u (hu.same hS0) (by simp) (by have := hf.1; simp; omega) hone
  have HR : Hid (satL a p = (p.map (litTrue a)).any id) := Lib.hid rfl
  obtain ⟨n, hn⟩ : ∃ n, n = (a.map Value.bool).length := ⟨_, rfl⟩
  rw [← hn] at hc hS0
  rw [← hn]
  clear hone hv hu hf hcs hn
  go_enter Try.func122, Try.ntmps122
  go_wp2_with fail
  refine hc.mono ?_
  rintro e w1 ⟨rfl, hS1⟩
  go_wp2
  go_ret
  exact ⟨ret_bool (by rw [HR.out, List.any_map]; rfl), hS0.trans hS1⟩

/-- the clauses lie in memory -/
def ClsAt (S : Nat → Prop) (w : World) (v : Value) (cls : List (List Int)) : Prop :=
  ∃ vals : List Value, RowAt S w v vals ∧ vals.length = cls.length ∧ ∀ (j : Nat) (u : Value) (p : List Int), vals[j]? = some u → cls[j]? = some p → RowAt S w u (p.map (Value.int .i64))
theorem ClsAt.same {S : Nat → Prop} {w w' : World} {v : Value} {cls : List (List Int)} (h : ClsAt S w v cls) (hk : Same w w') : ClsAt S w' v cls := by
  obtain ⟨vals, h1, h2, h3⟩ := h
  exact ⟨vals, h1.same hk, h2, fun j u p hj hp => (h3 j u p hj hp).same hk⟩
theorem clsAt_of_own {w : World} {base : Nat} {v : Value} {cls : List (List Int)} (h : ClsOwn w base v cls) : ClsAt (fun b => base ≤ b) w v cls := by
  obtain ⟨vals, h1, h2⟩ := h
  exact ⟨vals, rowAt_of_owns h1, by have := h1.1; simpa using this, fun j u p hj hp => rowAt_of_owns (h2 j u p hj hp)⟩

theorem all_any (a : List Bool) (cls : List (List Int)) (S : Nat → Prop) (w : World) (v u : Value) (hv : RowAt S w v (a.map Value.bool)) (hu : ClsAt S w u cls) (hf : ∀ p ∈ cls, fits a.length p) (hl : cls.length ≤ 1000) (h3 : a.length ≤ 1000) :
    Calls Try.prog 72 #[u, v] w fun e w' => e = .returned (.bool (allL a cls)) ∧ Same w w' := by
  obtain ⟨vals, hu1, hu2, hu3⟩ := hu
  obtain ⟨ao, c, rfl, hcl, hcs⟩ := row_cases hv
  have hS0 : Same w (w.alloc (.cells #[.slice ao (a.map Value.bool).length c] 55)) := (Keeps.refl _ w).alloc _
  have hone : ∀ (j : Nat) (x : Value) (b : Bool) (A : World), vals[j]? = some x → (cls.map fun p => !satL a p)[j]? = some b → Same (w.alloc (.cells #[.slice ao (a.map Value.bool).length c] 55)) A →
      Calls Try.prog 121 (#[x] ++ #[.pointer (some ⟨w.heap.size, 0, none⟩)]) A fun e w' => e = .returned (.bool b) ∧ Same A w' := by
    intro j x b A hx hb hA
    simp only [List.getElem?_map, Option.map_eq_some_iff] at hb
    obtain ⟨p, hp, rfl⟩ := hb
    have hcell : A.cell? ⟨w.heap.size, 0, none⟩ = some (.slice ao (a.map Value.bool).length c) := hA.cell_of trivial (by simp)
    have hc := sat_any a p S A (.slice ao (a.map Value.bool).length c) x (hv.same (hS0.trans hA)) ((hu3 j x p hx hp).same (hS0.trans hA)) (hf p (List.mem_of_getElem? hp)) h3
    obtain ⟨n, hn⟩ : ∃ n, n = (a.map Value.bool).length := ⟨_, rfl⟩
    rw [← hn] at hc hcell
    clear hv hu1 hu2 hu3 hf hcs hA hS0 hn hx hp
    go_enter Try.func121, Try.ntmps121
    go_wp2_with fail
    refine hc.mono ?_
    rintro e w1 ⟨rfl, hS1⟩
    go_wp2
    go_ret
    exact ⟨rfl, hS1⟩
  have hc := contains_cls_any 121 #[.pointer (some ⟨w.heap.size, 0, none⟩)] (enters_of Try.func121 (by kernel_rfl) rfl) (cls.map fun p => !satL a p) vals S _ u (hu1.same hS0) (by simp [hu2]) (by omega) hone
  have HR : Hid (allL a cls = !(cls.map fun p => !satL a p).any id) := Lib.hid rfl
  obtain ⟨n, hn⟩ : ∃ n, n = (a.map Value.bool).length := ⟨_, rfl⟩
  rw [← hn] at hc hS0
  rw [← hn]
  clear hone hv hu1 hu2 hu3 hf hcs hn
  go_enter Try.func72, Try.ntmps72
  go_wp2_with fail
  refine hc.mono ?_
  rintro e w1 ⟨rfl, hS1⟩
  go_wp2
  go_ret
  exact ⟨ret_bool (by rw [HR.out, List.any_map]; rfl), hS0.trans hS1⟩
end Go.Proofs.Ytpokiglgjmcdoaa
