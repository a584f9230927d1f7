/-
  Contracts of slices.DeleteFunc at accesses; of AccessesOf of the program and of the reference.
-/
import Derived.Test.YtbhjicjcilneeaaCDel
import Derived.Test.YtbhjicjcilneeaaLibApp
namespace Go.Proofs.Ytbhjicjcilneeaa
open Go.RowKit
set_option maxHeartbeats 2000000
set_option linter.unusedVariables false

def kept (p : Acc → Bool) (xs : List Acc) : List Acc := xs.filter fun a => !p a
theorem kept_take (p : Acc → Bool) (xs : List Acc) (k : Nat) (h : k < xs.length) : kept p (xs.take (k + 1)) = kept p (xs.take k) ++ if p xs[k] = true then [] else [xs[k]] := by
  unfold kept
  rw [List.take_succ_eq_append_getElem h, List.filter_append]
  congr 1
  cases hp : p xs[k] <;> simp [hp]
theorem kept_le (p : Acc → Bool) (xs : List Acc) : (kept p xs).length ≤ xs.length := List.length_filter_le _ _
theorem kept_all {p : Acc → Bool} {xs : List Acc} (h : ∀ x ∈ xs, p x = false) : kept p xs = xs := by
  unfold kept
  rw [List.filter_eq_self]
  intro x hx
  rw [h x hx]; rfl
/-- the row while accesses are left out: its head is what is kept so far, its tail what is still to be read. -/
def Half (p : Acc → Bool) (xs zs : List Acc) (i j : Nat) : Prop := zs.length = xs.length ∧ i = (kept p (xs.take j)).length ∧ i < j ∧ zs.take i = kept p (xs.take j) ∧ zs.drop j = xs.drop j
theorem Half.at_ {p : Acc → Bool} {xs zs : List Acc} {i j : Nat} (h : Half p xs zs i j) (hj : j < xs.length) : ∃ h' : j < zs.length, zs[j] = xs[j] := by
  obtain ⟨hl, _, _, _, hd⟩ := h
  refine ⟨by omega, ?_⟩
  have := congrArg (fun l => l[0]?) hd
  simp only [List.getElem?_drop, Nat.add_zero] at this
  rw [List.getElem?_eq_getElem (by omega), List.getElem?_eq_getElem hj] at this
  exact Option.some.inj this
theorem Half.skip {p : Acc → Bool} {xs zs : List Acc} {i j : Nat} (h : Half p xs zs i j) (hj : j < xs.length) (hp : p xs[j] = true) : Half p xs zs i (j + 1) := by
  obtain ⟨hl, hi, hij, ht, hd⟩ := h
  have hk := kept_take p xs j hj
  rw [if_pos hp, List.append_nil] at hk
  refine ⟨hl, by rw [hk]; exact hi, by omega, by rw [hk]; exact ht, ?_⟩
  have := congrArg (fun l => l.drop 1) hd
  simpa [List.drop_drop, Nat.add_comm] using this
theorem Half.keep {p : Acc → Bool} {xs zs : List Acc} {i j : Nat} (h : Half p xs zs i j) (hj : j < xs.length) (hp : p xs[j] = false) : Half p xs (zs.set i xs[j]) (i + 1) (j + 1) := by
  obtain ⟨hl, hi, hij, ht, hd⟩ := h
  have hk := kept_take p xs j hj
  rw [hp] at hk
  simp only [Bool.false_eq_true, if_false] at hk
  refine ⟨by simp [hl], by rw [hk, List.length_append, ← hi]; rfl, by omega, ?_, ?_⟩
  · rw [hk, ← ht, List.take_succ_eq_append_getElem (by simp; omega)]
    congr 1
    · rw [List.take_set_of_le (Nat.le_refl _)]
    · simp
  · rw [List.drop_set_of_lt (by omega)]
    have := congrArg (fun l => l.drop 1) hd
    simpa [List.drop_drop, Nat.add_comm] using this
theorem Half.start {p : Acc → Bool} {xs : List Acc} {i : Nat} (hi : i < xs.length) (hp : p xs[i] = true) (hn : ∀ j (h' : j < xs.length), j < i → p xs[j] = false) : Half p xs xs i (i + 1) := by
  have h1 : kept p (xs.take i) = xs.take i := kept_all fun x hx => by
    obtain ⟨j, hj, rfl⟩ := List.mem_take_iff_getElem.1 hx
    exact hn j (by omega) (by omega)
  have hk := kept_take p xs i hi
  rw [if_pos hp, List.append_nil, h1] at hk
  refine ⟨rfl, by rw [hk, List.length_take]; omega, by omega, by rw [hk], rfl⟩
theorem deleteFuncA_any (A : Option Addr) (c : Nat) (xs : List Acc) (f : Value) (p : Acc → Bool) (base : Nat) (w : World) (hl : xs.length ≤ 1000000000)
    (hown : w.ownsRow base 35 4 (.slice A xs.length c) xs.length (flat xs)) (hf : AnswersA f p (Value.slice A xs.length c).ownBlock w) :
    Calls Try.prog 41 #[.slice A xs.length c, f] w fun e w' => e = .returned (.slice A (kept p xs).length c) ∧ w'.ownsRow base 35 4 (.slice A (kept p xs).length c) (kept p xs).length (flat (kept p xs)) ∧ w.grownBy w' (Value.slice A xs.length c).ownBlock := by
  have hcap := own_cap hown
  have HO := mkHid hown
  obtain ⟨id, cap, rfl, hrun, hfc⟩ := hf
  have HF := mkHid (show AnswersA (.func (.func id) #[] cap) p (Value.slice A xs.length c).ownBlock w from ⟨id, cap, rfl, hrun, hfc⟩)
  have HFC := mkHid hfc
  clear hown hfc
  go_enter Try.func41, Try.ntmps41
  go_wp2_with fail
  refine (indexFuncA_any _ _ _ _ p _ _ hl (Sl.of_own HO.out) HF.out).mono ?_
  rintro e w1 ⟨⟨i, hi, rfl, hp, hn⟩ | ⟨rfl, hn⟩, hb⟩
  case inr =>
    have HB := mkHid hb
    have hk : kept p xs = xs := kept_all hn
    have HO1 := mkHid (own_below HO.out hb)
    clear hb hn
    go_wp2_with fail
    go_ret
    rw [hk]
    exact ⟨rfl, HO1.out, grown_of_below HB.out _⟩
  case inl =>
    obtain ⟨g, hA⟩ : ∃ g, A = some ⟨g, 0, none⟩ := by
      have hfl : (flat xs).length = xs.length * 4 := flat_length xs
      obtain ⟨g, hA, _⟩ := own_open HO.out (i := 0) (by omega)
      exact ⟨g, hA⟩
    subst hA
    have hrow : (Value.slice (some ⟨g, 0, none⟩) xs.length c).ownBlock = some g := rfl
    rw [hrow] at HF HFC
    have HHf := mkHid (Half.start hi hp hn)
    have HO1 := mkHid (own_below HO.out hb)
    have HG1 := mkHid (grown_of_below hb (some g))
    have hne : ((i : Int) == -1) = false := by rw [beq_eq_false_iff_ne]; omega
    clear hb hn hp
    go_wp2_with fail
    go_loopw [5, 6] (fun iv jv wr => ∃ j : Nat, j ≤ xs.length ∧ jv = .int .i64 j ∧ ∃ i zs, iv = .int .i64 (i : Nat) ∧ Hid (Half p xs zs i j) ∧ wr.ownsRow base 35 4 (.slice (some ⟨g, 0, none⟩) xs.length c) xs.length (flat zs) ∧ w.grownBy wr (some g)) (fun _ jv _ => xs.length - (intOf jv).toNat)
    case atStart => exact ⟨i + 1, by omega, by go_num, i, xs, rfl, HHf, HO1.out, HG1.out⟩
    case round =>
      clear HHf HO1 HG1 hne hi HO
      obtain ⟨j, hj, rfl, i, zs, rfl, HH, hown, hgr⟩ := hrel
      have HO := mkHid hown
      have HG := mkHid hgr
      have hij := HH.out.2.2.1
      have hzl := HH.out.1
      clear hown hgr
      by_cases hlt : j < xs.length
      · obtain ⟨hjz, hzj⟩ := HH.out.at_ hlt
        have hrd := Sl.of_own HO.out
        obtain ⟨b', o', hA, h0, h1, h2, h3⟩ := hrd.acc hjz
        injection hA with hA
        injection hA with hA1 hA2
        subst hA1 hA2
        simp only [Nat.zero_add] at h0 h1 h2 h3
        rw [hzj] at h0 h1 h2 h3
        have HXJ := mkHid (show ∃ x, x = xs[j] from ⟨_, rfl⟩)
        obtain ⟨x, hx⟩ := HXJ.out
        rw [← hx] at h0 h1 h2 h3
        have hgs := (HO.out.lt g rfl)
        obtain ⟨x0, x1, x2, x3⟩ := x
        simp only at h0 h1 h2 h3
        have hal : wr.grownBy (wr.alloc (.cells #[.int .i64 x0, .int .i64 x1, .bool x2, .int .i64 x3] 35)) (some g) := World.grownBy_alloc _ _ _
        have hcl := HFC.out ⟨x0, x1, x2, x3⟩ (wr.alloc (.cells #[.int .i64 x0, .int .i64 x1, .bool x2, .int .i64 x3] 35)) (grown_trans HG.out hal)
        have hbox := (fun w' (hb : Below (wr.alloc (.cells #[.int .i64 x0, .int .i64 x1, .bool x2, .int .i64 x3] 35)).heap.size (wr.alloc (.cells #[.int .i64 x0, .int .i64 x1, .bool x2, .int .i64 x3] 35)) w') =>
          show (w'.cell? ⟨wr.heap.size, 0, none⟩ = some (.int .i64 x0) ∧ w'.cell? ⟨wr.heap.size, 1, none⟩ = some (.int .i64 x1) ∧ w'.cell? ⟨wr.heap.size, 2, none⟩ = some (.bool x2) ∧ w'.cell? ⟨wr.heap.size, 3, none⟩ = some (.int .i64 x3)) from by
            refine ⟨?_, ?_, ?_, ?_⟩ <;> (rw [hb.cell (by simp), cell_of_row _ wr.heap.size _ _ _ _ (heap_alloc_new wr _)]; rfl))
        have HBX := mkHid hbox
        have HCL := mkHid hcl
        have HAL := mkHid hal
        have HX := mkHid hx
        clear hcl hbox hal hx hzj hrd HF HFC
        cases hp : p ⟨x0, x1, x2, x3⟩ with
        | true =>
          have HP := mkHid hp
          rw [hp] at HCL
          clear hp
          go_wp2_with (first | (refine HCL.out.mono ?_; rintro e w2 ⟨rfl, hb2⟩; have HB2 := mkHid hb2; clear hb2))
          go_roundw
          case rel =>
            refine ⟨j + 1, by omega, by go_num, i, zs, rfl, mkHid (HH.out.skip hlt (by rw [← HX.out]; exact HP.out)), ?_, grown_trans (grown_trans HG.out HAL.out) (grown_of_below HB2.out _)⟩
            exact own_below (HO.out.alloc _) HB2.out
          case measure => simp [intOf] <;> omega
        | false =>
          have HP := mkHid hp
          rw [hp] at HCL
          clear hp
          go_wp2_with (first | (refine HCL.out.mono ?_; rintro e w2 ⟨rfl, hb2⟩; have HB2 := mkHid hb2; have HO2 := mkHid (own_acc (own_below (HO.out.alloc _) hb2) (show i < zs.length by omega) ⟨x0, x1, x2, x3⟩); obtain ⟨c0, c1, c2, c3⟩ := HBX.out w2 hb2; clear hb2; obtain ⟨⟨p0, p1, p2, p3⟩, ⟨f0, f1, f2, f3⟩, _⟩ := HO2.out))
          go_roundw
          case rel =>
            refine ⟨j + 1, by omega, by go_num, i + 1, zs.set i ⟨x0, x1, x2, x3⟩, by go_num, mkHid ?_, HO2.out.2.2, ?_⟩
            · rw [HX.out]; exact HH.out.keep hlt (by rw [← HX.out]; exact HP.out)
            · exact grown_set4 (grown_trans (grown_trans HG.out HAL.out) (grown_of_below HB2.out _)) _ _ _ _ _ _ _ _
          case measure => simp [intOf] <;> omega
      · have hje : j = xs.length := by omega
        have hkeep : zs.take i = kept p xs ∧ i = (kept p xs).length := by
          have h := HH.out
          obtain ⟨_, h2, _, h4, _⟩ := h
          rw [List.take_of_length_le (show xs.length ≤ j by omega)] at h2 h4
          exact ⟨h4, h2⟩
        have HKP := mkHid hkeep
        have hgs := (HO.out.lt g rfl)
        have hcells : ∀ t, t < (xs.length - i) * 4 → (wr.cell? ⟨g, i * 4 + t, none⟩).isSome = true ∧ wr.frozen? ⟨g, i * 4 + t, none⟩ = false := fun t ht => by
          obtain ⟨g', hg', _, _, hc, hfz, _⟩ := own_open HO.out (i := i * 4 + t) (by rw [flat_length]; omega)
          injection hg' with hg'
          injection hg' with hg'
          subst hg'
          exact ⟨by rw [hc]; rfl, hfz⟩
        have hclear : ∀ ty, (Builtin.clear_ #[26] ty #[.slice (some ⟨g, i * 4, none⟩) (xs.length - i) (c - i)]).run Try.prog wr = .ok (.tuple #[]) (wr.setCells g (i * 4) (flat (List.replicate (xs.length - i) acc0))) :=
          fun ty => run_clear_acc wr ty g (i * 4) (xs.length - i) (c - i) (by omega) (fun t ht => (hcells t ht).1) (fun t ht => (hcells t ht).2)
        obtain ⟨zs', ho', ht', hg'⟩ := own_setCells (flat (List.replicate (xs.length - i) acc0)) wr base 35 g xs.length c (i * 4) (i * 4) (flat zs) HO.out (Nat.le_refl _)
        have HOW := mkHid (own_prefix4 ho' (show i ≤ xs.length by omega))
        have HGW := mkHid (grown_trans HG.out hg')
        have HT := mkHid ht'
        have k1 : i < xs.length := by omega
        have k2 : i ≤ c := by omega
        have k3 : ¬ c = i := by omega
        have k4 : (0 : Int) ≤ (i : Int) := by omega
        have k5 : (i : Int) ≤ (xs.length : Int) := by omega
        have k6 : (i : Int) ≤ (c : Int) := by omega
        clear hcells ho' ht' hg' hkeep
        go_wp2_with fail
        go_ret
        refine ⟨ret_eq (by rw [← HKP.out.2]; rfl), ?_, HGW.out⟩
        have h := HOW.out
        rw [HT.out, flat_take, HKP.out.1] at h
        rw [← HKP.out.2]
        exact h
/-! ### AccessesOf -/
def ofLane (xs : List Acc) (l : Int) : List Acc := xs.filter fun a => a.who == l
theorem ofLane_kept (xs : List Acc) (l : Int) : kept (fun a => a.who != l) xs = ofLane xs l := by
  unfold kept ofLane
  congr 1
  funext a
  cases h : a.who == l <;> simp [bne, h]
theorem ofLane_le (xs : List Acc) (l : Int) : (ofLane xs l).length ≤ xs.length := List.length_filter_le _ _
theorem ofLane_take (xs : List Acc) (l : Int) (k : Nat) (h : k < xs.length) : ofLane (xs.take (k + 1)) l = ofLane (xs.take k) l ++ if (xs[k].who == l) = true then [xs[k]] else [] := by
  unfold ofLane
  rw [List.take_succ_eq_append_getElem h, List.filter_append]
  congr 1
  cases hp : xs[k].who == l <;> simp [hp]
theorem notOf_any (a : Acc) (l : Int) (q : Addr) (w : World) (hc : w.cell? q = some (.int .i64 l)) :
    Calls Try.prog 43 #[accV a, .pointer (some q)] w fun e w' => e = .returned (.bool (a.who != l)) ∧ Below w.heap.size w w' := by
  obtain ⟨x0, x1, x2, x3⟩ := a
  have hc2 : (w.alloc (.cells #[.int .i64 x0, .int .i64 x1, .bool x2, .int .i64 x3] 35)).cell? q = some (.int .i64 l) := Lib.cell?_alloc_some _ hc
  go_enter Try.func43, Try.ntmps43
  go_wp2_with fail
  go_ret
  exact ⟨rfl, (Below.refl _ _).alloc (Nat.le_refl _) _⟩
theorem implAccessesOf_any (A : Option Addr) (c : Nat) (xs : List Acc) (l : Int) (w : World) (hl : xs.length ≤ 1000000000) (hs : Sl w A (flat xs)) :
    Calls Try.prog 17 #[.slice A xs.length c, .int .i64 l] w (RetAccs (ofLane xs l) w) := by
  have hB : Below w.heap.size w (w.alloc (.cells #[.int .i64 l] 3)) := (Below.refl _ _).alloc (Nat.le_refl _) _
  have HB := mkHid hB
  have HS := mkHid (hs.below hB)
  have hcell : ∀ X : World, ∀ row : Option Nat, (w.alloc (.cells #[.int .i64 l] 3)).grownBy X row → row ≠ some w.heap.size → X.cell? ⟨w.heap.size, 0, none⟩ = some (.int .i64 l) := fun X row hX hr => by
    have h0 : (w.alloc (.cells #[.int .i64 l] 3)).cell? ⟨w.heap.size, 0, none⟩ = some (.int .i64 l) := by
      rw [cell_of_row _ w.heap.size 0 _ _ _ (heap_alloc_new w _)]; rfl
    exact hX.cell h0 (fun e => hr e.symm)
  have HCE := mkHid hcell
  clear hB hs hcell
  go_enter Try.func17, Try.ntmps17
  go_wp2_with fail
  refine (cloneA_any _ _ _ _ hl HS.out).mono ?_
  rintro e w1 ⟨A1, c1, rfl, o1, b1⟩
  have hrow : ∀ g, (Value.slice A1 xs.length c1).ownBlock = some g → w.heap.size < g := fun g hg => by
    have := (o1.lt g hg).1
    simp at this
    omega
  have hne : (Value.slice A1 xs.length c1).ownBlock ≠ some w.heap.size := fun e => by have := hrow _ e; omega
  have hA : AnswersA (.func (.func 43) #[] #[.pointer (some ⟨w.heap.size, 0, none⟩)]) (fun a => a.who != l) (Value.slice A1 xs.length c1).ownBlock w1 :=
    ⟨43, #[.pointer (some ⟨w.heap.size, 0, none⟩)], rfl, fun args w => by kernel_rfl, fun a X hX => by
      simpa using notOf_any a l ⟨w.heap.size, 0, none⟩ X (HCE.out X _ (grown_trans (grown_of_below b1 _) hX) hne)⟩
  have hD := deleteFuncA_any A1 c1 xs _ _ _ w1 hl o1 hA
  rw [ofLane_kept] at hD
  have HD := mkHid hD
  have HB1 := mkHid (below_then HB.out b1)
  have HR := mkHid hrow
  clear hD hA hne hrow o1 b1 HCE HS
  go_wp2_with fail
  refine HD.out.mono ?_
  rintro e w2 ⟨rfl, o2, g2⟩
  have HO2 := mkHid (own_base o2 (base' := w.heap.size) (by simp))
  have HB2 := mkHid (HB1.out.grown g2 HB1.out.size (fun g hg => Nat.le_of_lt (HR.out g hg)))
  clear o2 g2
  go_wp2_with fail
  go_ret
  exact ⟨A1, c1, rfl, HO2.out, HB2.out⟩
theorem specAccessesOf_any (A : Option Addr) (c : Nat) (xs : List Acc) (l : Int) (w : World) (hl : xs.length ≤ 1000000000) (hs : Sl w A (flat xs)) :
    Calls Try.prog 19 #[.slice A xs.length c, .int .i64 l] w (RetAccs (ofLane xs l) w) := by
  have HS := mkHid hs
  clear hs
  go_enter Try.func19, Try.ntmps19
  go_wp2_with fail
  go_loopw [5, 6] (fun v i wr => ∃ k : Nat, k ≤ xs.length ∧ i = .int .i64 k ∧ ∃ g c' qs, v = .slice (some ⟨g, 0, none⟩) qs.length c' ∧ Hid (qs = ofLane (xs.take k) l) ∧ qs.length ≤ k ∧ wr.ownsRow w.heap.size 35 4 (.slice (some ⟨g, 0, none⟩) qs.length c') qs.length (flat qs) ∧ Below w.heap.size w wr) (fun _ i _ => xs.length - (intOf i).toNat)
  case atStart => exact ⟨0, by omega, rfl, w.heap.size, 0, [], rfl, mkHid rfl, by simp, own_empty _ _ _, (Below.refl _ _).alloc (Nat.le_refl _) _⟩
  case round =>
    obtain ⟨k, hk, rfl, g, c', qs, rfl, HQ, hql, hown, hb⟩ := hrel
    have HO := mkHid hown
    have HB := mkHid hb
    have hsr := HS.out.below hb
    have hsz := hb.size
    clear hown hb
    by_cases hlt : k < xs.length
    · obtain ⟨bb, off, rfl, h0, h1, h2, h3⟩ := hsr.acc hlt
      have HT := mkHid (ofLane_take xs l k hlt)
      obtain ⟨x, hx⟩ : ∃ x, x = xs[k] := ⟨_, rfl⟩
      rw [← hx] at h0 h1 h2 h3 HT
      obtain ⟨x0, x1, x2, x3⟩ := x
      simp only at h0 h1 h2 h3 HT
      clear hx hsr
      cases hq : x0 == l with
      | false =>
        have HE := mkHid hq
        go_wp2_with fail
        go_roundw
        case rel => exact ⟨k + 1, by omega, by go_num, g, c', qs, rfl, mkHid (by rw [HT.out, HE.out, HQ.out]; simp), by omega, HO.out, HB.out⟩
        case measure => simp [intOf] <;> omega
      | true =>
        have HE := mkHid hq
        go_wp2_with (at_builtin; refine wpList_appS Ea (HO.out.alloc _) (newCells _ _ _) rfl (by simp [Value.oneCell']) (by omega) (by omega) (by simp; omega) rfl rfl rfl rfl ?_; intro g'' c3 w4 hown4 hg4; have HO4 := mkHid hown4; have HG4 := mkHid hg4; clear hown4 hg4)
        go_roundw
        case rel =>
          refine ⟨k + 1, by omega, by go_num, g'', c3, qs ++ [⟨x0, x1, x2, x3⟩], by simp, mkHid (by rw [HT.out, HE.out, HQ.out]; simp), by simp; omega, ?_, ?_⟩
          · have := HO4.out
            rw [List.length_append]
            rw [flat_append]
            exact this
          · exact below_grown (HB.out.alloc hsz _) HG4.out (fun g hg => by injection hg with hg; subst hg; exact (HO.out.lt _ rfl).1)
        case measure => simp [intOf] <;> omega
    · have hqe : qs = ofLane xs l := by have := HQ.out; rwa [List.take_of_length_le (by omega)] at this
      have HQE := mkHid hqe
      clear hqe HQ hsr
      go_wp2_with fail
      go_ret
      rw [← HQE.out]
      exact ⟨some ⟨g, 0, none⟩, c', rfl, HO.out, HB.out⟩
end Go.Proofs.Ytbhjicjcilneeaa
