/-
  A region that draws its order, whose last operation comes up last in every order: all but the last by one walk of the text's order, the last one by the plain walk. No function of the program stands here.
-/
import Derived.Test.YtabpcbikbhbcaaaTReg
namespace Go.Proofs.Ytabpcbikbhbcaaa
open Go.RowKit
set_option linter.unusedVariables false

section
variable {P : Program} {R : Reg} {Q : Exit → Act → World → Prop}

/-- the region's last operation, kept for the end. -/
def lastQ (P : Program) (ops : Array Oper) (o : Oper) (Q : Exit → Act → World → Prop) : Exit → Act → World → Prop
  | .normal => wpList P ops Q [o]
  | e => Q e
theorem lastQ_outs {ops : Array Oper} {o : Oper} (h : LetsOut (lastQ P ops o Q)) : LetsOut Q := by
  obtain ⟨a, w, h⟩ := h
  exact ⟨a, w, h⟩
theorem oper_last {ops : Array Oper} {o o' : Oper} {a : Act} {w : World} {K K' : Act → World → Prop} (h : ∀ a w, K a w → K' a w) (hh : o'.wp P a w K (lastQ P ops o Q)) : o'.wp P a w K' Q := by
  unfold Oper.wp at *
  generalize (execOp a.eval o').run P w = r at *
  cases r with
  | ok n w' =>
    cases n <;> simp only [Oper.upon] at hh ⊢ <;>
      first
        | exact h _ _ hh
        | exact Calls.mono hh (fun e w'' he => by cases e <;> first | exact h _ _ he | exact he | exact lastQ_outs he)
        | exact Rows.mono hh (fun _ _ he => h _ _ he)
  | halt x w' => cases x <;> simp only [Oper.upon] at hh ⊢ <;> exact hh
theorem pushD (listed : Array Bool) (b d : Bool) (i : Nat) : (listed.push b).getD i d = if i = listed.size then b else listed.getD i d := by
  rw [Array.getD_eq_getD_getElem?, Array.getD_eq_getD_getElem?, Array.getElem?_push]
  by_cases h : i = listed.size
  · simp [h]
  · simp [h]
theorem push_set (listed : Array Bool) (i : Nat) (h : i < listed.size) : (listed.push false).setIfInBounds i true = (listed.setIfInBounds i true).push false := by
  apply Array.ext_getElem?
  intro j
  simp only [Array.getElem?_setIfInBounds, Array.getElem?_push, Array.size_push, Array.size_setIfInBounds]
  by_cases e : i = j
  · subst e
    simp [h, Nat.ne_of_lt h]
    omega
  · simp [e]
theorem push_last (listed : Array Bool) : (listed.push false).setIfInBounds listed.size true = listed.push true := by
  apply Array.ext_getElem?
  intro j
  simp only [Array.getElem?_setIfInBounds, Array.getElem?_push, Array.size_push]
  by_cases e : listed.size = j
  · subst e; simp
  · simp [e, Ne.symm e]
theorem getD_ft {listed : Array Bool} {i : Nat} (hi : i < listed.size) : listed.getD i true = listed.getD i false := by simp [hi]
end
section
variable {P : Program} {Q : Exit → Act → World → Prop} {l : List Oper} {o : Oper}

theorem ops_lt {i : Nat} (h : i < l.length) : (l ++ [o]).toArray[i]? = l.toArray[i]? := by
  simp only [List.getElem?_toArray]
  rw [List.getElem?_append_left h]
theorem ops_last : (l ++ [o]).toArray[l.length]? = some o := by
  simp
theorem all_listed (hlow : lowB (l ++ [o]) 0 = true) {listed : Array Bool} (hs : listed.size = l.length) (hr : Region.ready .any l.toArray listed = []) : ∀ i, i < l.length → listed.getD i false = true := by
  intro i
  induction i using Nat.strongRecOn with
  | _ i ih =>
    intro hi
    cases hl : listed.getD i false with
    | true => rfl
    | false =>
      exfalso
      have : i ∈ Region.ready .any l.toArray listed := by
        rw [mem_ready]
        refine ⟨by rw [getD_ft (by omega)]; exact hl, l[i], by simp [hi], fun e he hb => ?_⟩
        have := lowB_spec (l ++ [o]) 0 hlow i l[i] (by rw [List.getElem?_append_left hi]; exact List.getElem?_eq_getElem hi) e he hb
        exact ih e.on (by omega) (by omega)
      rw [hr] at this
      cases this
theorem wpAny_last (hg : ∀ x ∈ l ++ [o], x.guard = none) (hlow : lowB (l ++ [o]) 0 = true) (hlast : ∀ j, j < l.length → (avoid j (l ++ [o]) 0 []).getD l.length false = false) :
    ∀ (fuel : Nat) (listed : Array Bool) (a : Act) (w : World), listed.size = l.length → Down l.toArray listed → wpAny P .any l.toArray (lastQ P (l ++ [o]).toArray o Q) fuel listed a w → wpAny P .any (l ++ [o]).toArray Q (fuel + 1) (listed.push false) a w := by
  have hw : ∀ (x : Oper), x ∈ l ++ [o] → ∀ y, Region.wanted x y = true := fun x hx y => by simp [Region.wanted, hg x hx]
  have wantO := hw o (by simp)
  -- once all others are listed
  have fin : ∀ (fuel : Nat) (listed : Array Bool) (a : Act) (w : World), listed.size = l.length → (∀ i, i < l.length → listed.getD i false = true) → lastQ P (l ++ [o]).toArray o Q .normal a w → wpOp P (l ++ [o]).toArray Q l.length (wpAny P .any (l ++ [o]).toArray Q fuel ((listed.push false).setIfInBounds l.length true)) a w := by
    intro fuel listed a w hs hall hq
    have hnil : Region.ready .any (l ++ [o]).toArray (listed.push true) = [] := by
      rw [List.eq_nil_iff_forall_not_mem]
      intro j hj
      obtain ⟨h0, x, hx, _⟩ := mem_ready.1 hj
      rw [pushD] at h0
      split at h0
      · cases h0
      · rename_i hne
        have hjl := (Array.getElem?_eq_some_iff.1 hx).1
        simp at hjl
        have h1 := hall j (by omega)
        rw [getD_ft (by omega), h1] at h0
        cases h0
    unfold wpOp
    simp only [ops_last]
    rw [if_pos (wantO _)]
    change wpList P (l ++ [o]).toArray Q [o] a w at hq
    unfold wpList at hq
    rw [if_pos (wantO _)] at hq
    refine hq.imp (Oper.wp_mono fun a' w' h => ?_) id
    rw [← hs, push_last]
    cases fuel with
    | zero => exact ⟨hnil, h⟩
    | succ f => exact ⟨fun _ => h, fun i hi => by rw [hnil] at hi; cases hi⟩
  intro fuel
  induction fuel with
  | zero =>
    intro listed a w hs hD h
    have hall := all_listed hlow hs h.1
    refine ⟨fun hr => ?_, fun i hi => ?_⟩
    · exfalso
      have : l.length ∈ Region.ready .any (l ++ [o]).toArray (listed.push false) := by
        rw [mem_ready]
        refine ⟨by rw [pushD, if_pos hs.symm], o, ops_last, fun e he hb => ?_⟩
        have := lowB_spec (l ++ [o]) 0 hlow l.length o (by simp) e he hb
        rw [pushD, if_neg (by omega)]
        exact hall e.on (by omega)
      rw [hr] at this
      cases this
    · obtain ⟨h0, x, hx, hal⟩ := mem_ready.1 hi
      have hjl := (Array.getElem?_eq_some_iff.1 hx).1
      simp at hjl
      by_cases e : i = l.length
      · subst e
        exact fin 0 listed a w hs hall h.2
      · exfalso
        rw [pushD, if_neg (by omega), getD_ft (by omega), hall i (by omega)] at h0
        cases h0
  | succ f ih =>
    intro listed a w hs hD h
    refine ⟨fun hr => ?_, fun i hi => ?_⟩
    · exfalso
      have hr' : Region.ready .any l.toArray listed = [] := by
        rw [List.eq_nil_iff_forall_not_mem]
        intro j hj
        obtain ⟨h0, x, hx, hal⟩ := mem_ready.1 hj
        have hjl := (Array.getElem?_eq_some_iff.1 hx).1
        simp at hjl
        have : j ∈ Region.ready .any (l ++ [o]).toArray (listed.push false) := by
          rw [mem_ready]
          refine ⟨by rw [pushD, if_neg (by omega)]; exact h0, x, by rw [ops_lt hjl]; exact hx, fun e he hb => ?_⟩
          have := lowB_spec (l ++ [o]) 0 hlow j x (by rw [List.getElem?_append_left hjl]; simpa using hx) e he hb
          rw [pushD, if_neg (by omega)]
          exact hal e he hb
        rw [hr] at this
        cases this
      have hall := all_listed hlow hs hr'
      have : l.length ∈ Region.ready .any (l ++ [o]).toArray (listed.push false) := by
        rw [mem_ready]
        refine ⟨by rw [pushD, if_pos hs.symm], o, ops_last, fun e he hb => ?_⟩
        have := lowB_spec (l ++ [o]) 0 hlow l.length o (by simp) e he hb
        rw [pushD, if_neg (by omega)]
        exact hall e.on (by omega)
      rw [hr] at this
      cases this
    · obtain ⟨h0, x, hx, hal⟩ := mem_ready.1 hi
      have hjl := (Array.getElem?_eq_some_iff.1 hx).1
      simp at hjl
      by_cases e : i = l.length
      · subst e
        -- the last one is ready: all others are listed
        have hD2 : Down (l ++ [o]).toArray (listed.push true) := by
          intro j oj hj hjl2 e he hb
          have hlt := lowB_spec (l ++ [o]) 0 hlow j oj (by simpa using hj) e he hb
          have hjn := (Array.getElem?_eq_some_iff.1 hj).1
          simp at hjn
          rw [pushD, if_neg (by omega)]
          by_cases ej : j = l.length
          · subst ej
            rw [ops_last] at hj
            injection hj with hj
            rw [ops_last] at hx
            injection hx with hx
            subst hj hx
            have := hal e he hb
            rwa [pushD, if_neg (by omega)] at this
          · rw [pushD, if_neg (by omega)] at hjl2
            exact hD j oj (by rw [← ops_lt (by omega)]; exact hj) hjl2 e he hb
        have hall : ∀ j, j < l.length → listed.getD j false = true := by
          intro j hj
          cases hk : listed.getD j false with
          | true => rfl
          | false =>
            exfalso
            have hk2 : (listed.push true).getD j false = false := by rw [pushD, if_neg (by omega)]; exact hk
            have := avoid_spec j hD2 hk2 (l ++ [o]) 0 [] rfl (by simp) hlow (by simp) l.length (by simp) (by rw [pushD, if_pos hs.symm])
            rw [hlast j hj] at this
            cases this
        have hr' : Region.ready .any l.toArray listed = [] := by
          rw [List.eq_nil_iff_forall_not_mem]
          intro j hj
          obtain ⟨h1, y, hy, _⟩ := mem_ready.1 hj
          have hjl3 := (Array.getElem?_eq_some_iff.1 hy).1
          simp at hjl3
          rw [getD_ft (by omega), hall j hjl3] at h1
          cases h1
        exact fin (f + 1) listed a w hs hall (h.1 hr')
      · have hil : i < l.length := by omega
        have hri : i ∈ Region.ready .any l.toArray listed := by
          rw [mem_ready]
          refine ⟨by rw [pushD, if_neg (by omega)] at h0; exact h0, x, by rw [← ops_lt (o := o) hil]; exact hx, fun e he hb => ?_⟩
          have := lowB_spec (l ++ [o]) 0 hlow i x (by simpa using hx) e he hb
          have h2 := hal e he hb
          rwa [pushD, if_neg (by omega)] at h2
        have h1 := h.2 i hri
        have hx' : l.toArray[i]? = some x := by rw [← ops_lt (o := o) hil]; exact hx
        have hxm : x ∈ l ++ [o] := by
          have h9 := hx
          simp only [List.getElem?_toArray] at h9
          exact List.mem_of_getElem? h9
        unfold wpOp at h1 ⊢
        simp only [hx'] at h1
        simp only [hx]
        rw [if_pos (hw x hxm _)] at h1 ⊢
        rw [push_set listed i (by omega)]
        have hD' : Down l.toArray (listed.setIfInBounds i true) := by
          intro j oj hj hl ed he hb
          by_cases e1 : j = i
          · rw [e1, hx'] at hj; injection hj with hj; subst hj
            exact getD_set_true ((mem_ready.1 hri).2.elim fun y ⟨hy, hyl⟩ => by rw [hx'] at hy; injection hy with hy; subst hy; exact hyl ed he hb)
          · rw [getD_set_ne false (Ne.symm e1)] at hl
            exact getD_set_true (hD j oj hj hl ed he hb)
        rcases h1 with h1 | ⟨h1, h2⟩
        · exact .inl (oper_last (fun a' w' hh => ih _ a' w' (by simpa using hs) hD' hh) h1)
        · exact .inr ⟨h1, lastQ_outs h2⟩
/-- the static look at the last operation. -/
def lastChk (l : List Oper) (o : Oper) : Bool := (l ++ [o]).all (fun x => x.guard.isNone) && lowB (l ++ [o]) 0 && (List.range l.length).all fun j => !(avoid j (l ++ [o]) 0 []).getD l.length false
theorem wp_region_last (R : Reg) {id : Nat} {a : Act} {w : World} (l : List Oper) (o : Oper) (hm : P.follows .mixedOrders = true) (hB : Region.lexB .any l.toArray = true) (hc : (R.chk l && R.chkLive l) = true) (hl : lastChk l o = true)
    (hI : R.I 0 { w with drawn := w.drawn + 1 }) (h : ∀ xs, wpN P l.toArray R (lastQ P (l ++ [o]).toArray o Q) xs 0 l a) : (Code.region id (l ++ [o]).toArray true).wp P Q a w := by
  simp only [Region.lexB, Bool.and_eq_true] at hB
  rw [Bool.and_eq_true] at hc
  simp only [lastChk, Bool.and_eq_true, List.all_eq_true, List.mem_range, Bool.not_eq_true', Option.isNone_iff_eq_none] at hl
  refine wp_region_any hm ?_
  have hlx := wpAnyN_lex (P := P) (R := R) (Q := lastQ P (l ++ [o]).toArray o Q) hB.1 l 0 (Array.replicate l.toArray.size false) (fun _ => a) (by simp) (by simpa using hB.2) h
  have hxs : Nonempty R.Ch := ⟨fun i => Classical.choice (R.ne i)⟩
  obtain ⟨xs⟩ := hxs
  have hdown : Down l.toArray (Array.replicate l.toArray.size false) := by
    intro j o ho hl'
    exfalso
    simp [Array.getElem?_replicate] at hl'
    split at hl' <;> simp at hl'
  have := wpAny_of_N (chk_spec hc.1 hc.2) l.length (Array.replicate l.toArray.size false) (fun _ => a) xs _ 0 (by simp) (by simp) hdown hI ?_ (fun _ _ => rfl) hlx
  · have h2 := wpAny_last hl.1.1 hl.1.2 hl.2 l.length _ a _ (by simp) hdown this
    have he : (Array.replicate l.toArray.size false).push false = Array.replicate (l ++ [o]).toArray.size false := by
      rw [show (l ++ [o]).toArray.size = l.toArray.size + 1 from by simp, Array.replicate_succ]
    rw [he] at h2
    simpa using h2
  · intro k hk hl'
    exfalso
    simp [Array.getElem?_replicate] at hl'
    split at hl' <;> simp at hl'
theorem wp_region_lastL (R : Reg) {id : Nat} {a : Act} {w : World} {L : List Oper} {o : Oper} (hL : L = L.dropLast ++ [o]) (hm : P.follows .mixedOrders = true) (hB : Region.lexB .any L.dropLast.toArray = true) (hc : (R.chk L.dropLast && R.chkLive L.dropLast) = true) (hl : lastChk L.dropLast o = true)
    (hI : R.I 0 { w with drawn := w.drawn + 1 }) (h : ∀ xs, wpN P L.dropLast.toArray R (lastQ P L.toArray o Q) xs 0 L.dropLast a) : (Code.region id L.toArray true).wp P Q a w := by
  have := wp_region_last (Q := Q) R (id := id) L.dropLast o hm hB hc hl hI (by rw [← hL]; exact h)
  rw [← hL] at this
  exact this
end
end Go.Proofs.Ytabpcbikbhbcaaa
