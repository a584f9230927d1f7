/-
  Parts of a proof: TReg, CDraw, DReg.
-/
import Derived.Test.YtjmiilneennjaaaPart01
import Derived.Test.YtjmiilneennjaaaRows
namespace Go.Proofs.Ytjmiilneennjaaa
open Go.RowKit
set_option linter.unusedVariables false

/-- what an operation yields: 'enc x' for some x, with a fact on x that the world bears. -/
structure Kind where
  X : Type
  enc : X → Value
  V : X → World → Prop
/-- a region's roles: 'nd': the operations that may yield one of several values. 'I': the worlds' invariant. 'hy': whose facts an operation asks. 'kills': whose facts it may use up. 'live': whose facts stand at the end. -/
structure Reg where
  nd : List Nat
  K : Nat → Kind
  ne : ∀ i, Nonempty (K i).X
  I : Nat → World → Prop
  mono : ∀ m w, I m w → I (m + 1) w
  hy : Nat → List Nat
  kills : Nat → List Nat
  live : List Nat := []
abbrev Reg.Ch (R : Reg) : Type := (i : Nat) → (R.K i).X
/-- the worlds of a region. -/
def Reg.W (R : Reg) : Type := { w : World // ∃ m, R.I m w }

section
variable {P : Program} {ops : Array Oper} {R : Reg} {Q : Exit → Act → World → Prop}

def yields (P : Program) (o : Oper) (a : Act) (w : World) (G : Value → World → Prop) : Prop :=
  match (execOp a.eval o).run P w with
  | .ok (.value v) w' => G v w'
  | .ok .skip w' => G undef w'
  | .ok (.enter f args) w' => Calls P f args w' fun e w'' => ∃ v, e = .returned v ∧ G v w''
  | _ => False
theorem wp_of_yields {o : Oper} {a : Act} {w : World} {G : Value → World → Prop} {K : Act → World → Prop} (hK : ∀ v w', G v w' → K (a.put o.dst v) w') (h : yields P o a w G) : o.wp P a w K Q := by
  unfold yields at h
  unfold Oper.wp
  generalize (execOp a.eval o).run P w = r at *
  cases r with
  | ok n w' =>
    cases n <;> simp only [Oper.upon] at h ⊢
    case value v => exact hK _ _ h
    case skip => exact hK _ _ h
    case enter f args => exact h.mono fun e w'' ⟨v, he, hg⟩ => by subst he; exact hK _ _ hg
  | halt x w' => exact h.elim
def detAt (P : Program) (o : Oper) (a : Act) (w : World) (v : Value) : Prop :=
  match (execOp a.eval o).run P w with
  | .ok (.value u) w' => w' = w ∧ u = v
  | .ok .skip w' => w' = w ∧ v = undef
  | _ => False
theorem detAt_one {o : Oper} {a : Act} {w : World} {v u : Value} (h : detAt P o a w v) (k : detAt P o a w u) : v = u := by
  unfold detAt at *
  generalize (execOp a.eval o).run P w = r at *
  cases r with
  | ok n w' =>
    cases n <;> simp only at h k
    case value x => exact h.2.symm.trans k.2
    case skip => exact h.2.trans k.2.symm
  | halt x w' => exact h.elim
theorem yields_of_det {o : Oper} {a : Act} {w : World} {v : Value} {G : Value → World → Prop} (h : detAt P o a w v) (hG : G v w) : yields P o a w G := by
  unfold detAt at h
  unfold yields
  generalize (execOp a.eval o).run P w = r at *
  cases r with
  | ok n w' =>
    cases n <;> simp only at h ⊢
    case value x => obtain ⟨rfl, rfl⟩ := h; exact hG
    case skip => obtain ⟨rfl, rfl⟩ := h; exact hG
  | halt x w' => exact h.elim

def Reg.hyps (R : Reg) (i : Nat) (xs : R.Ch) (w : World) : Prop := ∀ k ∈ R.hy i, (R.K k).V (xs k) w
/-- the facts of the others stand. -/
def Reg.keeps (R : Reg) (i : Nat) (w w' : World) : Prop := ∀ k ∈ R.nd, k ≠ i → k ∉ R.kills i → ∀ y, (R.K k).V y w → (R.K k).V y w'
def Obl (P : Program) (R : Reg) (i : Nat) (o : Oper) (a : Act) (xs : R.Ch) : Prop :=
  ∀ m w, m < 1000 → R.I m w → R.hyps i xs w → yields P o a w fun v w' => ∃ x, v = (R.K i).enc x ∧ (R.K i).V x w' ∧ R.I (m + 1) w' ∧ R.keeps i w w'
/-- the region's end. -/
def Fin (ops : Array Oper) (R : Reg) (Q : Exit → Act → World → Prop) (xs : R.Ch) (a : Act) : Prop :=
  ∀ w, R.I ops.size w → (∀ k ∈ R.live, (R.K k).V (xs k) w) → Q .normal a w

def wpN (P : Program) (ops : Array Oper) (R : Reg) (Q : Exit → Act → World → Prop) (xs : R.Ch) : Nat → List Oper → Act → Prop
  | _, [], a => Fin ops R Q xs a
  | i, o :: l, a =>
    if R.nd.contains i = true then Region.wanted o (yielded ops a.tmps) = true ∧ Obl P R i o a xs ∧ wpN P ops R Q xs (i + 1) l (a.put o.dst ((R.K i).enc (xs i)))
    else if Region.wanted o (yielded ops a.tmps) = true then ∃ v, (∀ w, (∃ m, R.I m w) → detAt P o a w v) ∧ wpN P ops R Q xs (i + 1) l (a.put o.dst v)
    else wpN P ops R Q xs (i + 1) l (a.put o.dst undef)

/-! ### whatever order -/
def Y (P : Program) (ops : Array Oper) (R : Reg) (i : Nat) (o : Oper) (A : R.Ch → Act) (val : R.Ch → Value) : Prop :=
  ∀ xs, if R.nd.contains i = true then Region.wanted o (yielded ops (A xs).tmps) = true ∧ val xs = (R.K i).enc (xs i) ∧ Obl P R i o (A xs) xs
    else (Region.wanted o (yielded ops (A xs).tmps) = true ∧ ∀ w, (∃ m, R.I m w) → detAt P o (A xs) w (val xs)) ∨ (Region.wanted o (yielded ops (A xs).tmps) = false ∧ val xs = undef)
def nOp (P : Program) (ops : Array Oper) (R : Reg) (i : Nat) (K : (R.Ch → Act) → Prop) (A : R.Ch → Act) : Prop :=
  match ops[i]? with
  | none => K A
  | some o => ∃ val, Y P ops R i o A val ∧ K fun xs => (A xs).put o.dst (val xs)
def wpAnyN (P : Program) (ops : Array Oper) (R : Reg) (Q : Exit → Act → World → Prop) : Nat → Array Bool → (R.Ch → Act) → Prop
  | 0, listed, A => Region.ready .any ops listed = [] ∧ ∀ xs, Fin ops R Q xs (A xs)
  | fuel + 1, listed, A => (Region.ready .any ops listed = [] → ∀ xs, Fin ops R Q xs (A xs)) ∧
    ∀ i ∈ Region.ready .any ops listed, nOp P ops R i (wpAnyN P ops R Q fuel (listed.setIfInBounds i true)) A

theorem nOp_mono {i : Nat} {A : R.Ch → Act} {K K' : (R.Ch → Act) → Prop} (h : ∀ A, K A → K' A) (hh : nOp P ops R i K A) : nOp P ops R i K' A := by
  unfold nOp at *
  split
  · exact h _ (by simpa [*] using hh)
  · rename_i o ho
    simp only [ho] at hh
    obtain ⟨val, h1, h2⟩ := hh
    exact ⟨val, h1, h _ h2⟩
theorem Y.nOp {i : Nat} {o : Oper} {A : R.Ch → Act} {val : R.Ch → Value} (hi : ops[i]? = some o) (hy : Y P ops R i o A val) {K : (R.Ch → Act) → Prop} (h : K fun xs => (A xs).put o.dst (val xs)) : nOp P ops R i K A := by
  unfold Go.Proofs.Ytjmiilneennjaaa.nOp
  simp only [hi]
  exact ⟨val, hy, h⟩
theorem detAt_congr {o : Oper} {a a' : Act} (he : execOp a'.eval o = execOp a.eval o) (w : World) (v : Value) : detAt P o a' w v ↔ detAt P o a w v := by
  unfold detAt; rw [he]
theorem Obl_congr {i : Nat} {o : Oper} {a a' : Act} {xs : R.Ch} (he : execOp a'.eval o = execOp a.eval o) : Obl P R i o a' xs ↔ Obl P R i o a xs := by
  unfold Obl yields; rw [he]
theorem Y.of_same {i : Nat} {o : Oper} {A A' : R.Ch → Act} {val : R.Ch → Value} (hy : Y P ops R i o A val) (he : ∀ xs, execOp (A' xs).eval o = execOp (A xs).eval o)
    (hw : ∀ xs, Region.wanted o (yielded ops (A' xs).tmps) = Region.wanted o (yielded ops (A xs).tmps)) : Y P ops R i o A' val := by
  intro xs
  have h := hy xs
  rw [hw xs]
  split
  · rename_i hn; rw [if_pos hn] at h; exact ⟨h.1, h.2.1, (Obl_congr (he xs)).2 h.2.2⟩
  · rename_i hn; rw [if_neg hn] at h
    rcases h with ⟨h1, h2⟩ | h
    · exact .inl ⟨h1, fun w hw' => (detAt_congr (he xs) w _).2 (h2 w hw')⟩
    · exact .inr h
theorem nOp_put {i j : Nat} {oi oj : Oper} {vi : R.Ch → Value} (hj : ops[j]? = some oj) (hap : oi.apart ops oj = true)
    (hsi : ∀ cs b, oi.op ≠ .select cs b) (hsj : ∀ cs b, oj.op ≠ .select cs b) {K : (R.Ch → Act) → Prop} {A : R.Ch → Act}
    (hy : Y P ops R i oi A vi) (h : nOp P ops R j K fun xs => (A xs).put oi.dst (vi xs)) :
    nOp P ops R j (fun A' => Y P ops R i oi A' vi ∧ K fun xs => (A' xs).put oi.dst (vi xs)) A := by
  obtain ⟨h1, h2, h3⟩ := Oper.apart_spec hap
  unfold nOp at *
  simp only [hj] at *
  obtain ⟨vj, hyj, hK⟩ := h
  refine ⟨vj, hyj.of_same (fun xs => (execOp_put oj hsj (A xs) oi.dst (vi xs) h1).symm) (fun xs => (wanted_put oj (A xs) oi.dst (vi xs) h1).symm), ?_, ?_⟩
  · exact hy.of_same (fun xs => execOp_put oi hsi (A xs) oj.dst (vj xs) h3) (fun xs => wanted_put oi (A xs) oj.dst (vj xs) h3)
  · have : (fun xs => ((A xs).put oj.dst (vj xs)).put oi.dst (vi xs)) = fun xs => ((A xs).put oi.dst (vi xs)).put oj.dst (vj xs) := by
      funext xs; exact (Act.put_comm (A xs) (vi xs) (vj xs) h2).symm
    rw [this]; exact hK

theorem wpAnyN_first {i : Nat} {oi : Oper} {vi : R.Ch → Value} (hi : ops[i]? = some oi) (hsel : ∀ (j : Nat) (o : Oper) cs b, ops[j]? = some o → o.op ≠ .select cs b) :
    ∀ (fuel : Nat) (listed : Array Bool) (A : R.Ch → Act),
      (∀ j oj, ops[j]? = some oj → j ≠ i → listed.getD j true = false → (∀ e ∈ oj.after, Region.binds .any e = true → e.on ≠ i) → oi.apart ops oj = true) →
      i ∈ Region.ready .any ops listed → Y P ops R i oi A vi →
      wpAnyN P ops R Q fuel (listed.setIfInBounds i true) (fun xs => (A xs).put oi.dst (vi xs)) → wpAnyN P ops R Q (fuel + 1) listed A := by
  intro fuel
  induction fuel with
  | zero =>
    intro listed A _ hr hy H
    refine ⟨fun h => (by rw [h] at hr; cases hr), fun j hj => ?_⟩
    by_cases hji : j = i
    · subst hji; exact hy.nOp hi H
    · have := ready_mono hj hji
      rw [H.1] at this
      cases this
  | succ fuel ih =>
    intro listed A hfree hr hy H
    refine ⟨fun h => (by rw [h] at hr; cases hr), fun j hj => ?_⟩
    by_cases hji : j = i
    · subst hji; exact hy.nOp hi H
    · have h1 := H.2 j (ready_mono hj hji)
      obtain ⟨hjun, oj, hoj, hall⟩ := mem_ready.1 hj
      have hnot : ∀ e ∈ oj.after, Region.binds .any e = true → e.on ≠ i := fun e he hb heq => by
        have h1 := hall e he hb
        have h0 := (mem_ready.1 hr).1
        rw [heq] at h1
        rcases Nat.lt_or_ge i listed.size with h' | h'
        · simp [h'] at h0 h1; rw [h0] at h1; cases h1
        · simp [Array.getElem?_eq_none h'] at h1
      have h2 := nOp_put hoj (hfree j oj hoj hji hjun hnot) (fun cs b => hsel i oi cs b hi) (fun cs b => hsel j oj cs b hoj) hy h1
      have hfree' : ∀ k ok, ops[k]? = some ok → k ≠ i → (listed.setIfInBounds j true).getD k true = false →
          (∀ e ∈ ok.after, Region.binds .any e = true → e.on ≠ i) → oi.apart ops ok = true := fun k ok hk hki hun hno => by
        refine hfree k ok hk hki ?_ hno
        by_cases hjk : j = k
        · subst hjk; exact hjun
        · rw [getD_set_ne true hjk] at hun; exact hun
      refine nOp_mono (fun A' h3 => ih (listed.setIfInBounds j true) A' hfree' (ready_mono hr (Ne.symm hji)) h3.1 ?_) h2
      rw [Array.setIfInBounds_comm _ _ hji]
      exact h3.2

theorem yields_lex {i : Nat} {o : Oper} {l : List Oper} {A : R.Ch → Act} (h : ∀ xs, wpN P ops R Q xs i (o :: l) (A xs)) : ∃ val, Y P ops R i o A val ∧ ∀ xs, wpN P ops R Q xs (i + 1) l ((A xs).put o.dst (val xs)) := by
  have h1 : ∀ xs, ∃ v, (if R.nd.contains i = true then Region.wanted o (yielded ops (A xs).tmps) = true ∧ v = (R.K i).enc (xs i) ∧ Obl P R i o (A xs) xs
    else (Region.wanted o (yielded ops (A xs).tmps) = true ∧ ∀ w, (∃ m, R.I m w) → detAt P o (A xs) w v) ∨ (Region.wanted o (yielded ops (A xs).tmps) = false ∧ v = undef)) ∧ wpN P ops R Q xs (i + 1) l ((A xs).put o.dst v) := by
    intro xs
    have hx := h xs
    unfold wpN at hx
    by_cases hn : R.nd.contains i = true
    · rw [if_pos hn] at hx
      exact ⟨_, by rw [if_pos hn]; exact ⟨hx.1, rfl, hx.2.1⟩, hx.2.2⟩
    · rw [if_neg hn] at hx
      by_cases hw : Region.wanted o (yielded ops (A xs).tmps) = true
      · rw [if_pos hw] at hx
        obtain ⟨v, h1, h2⟩ := hx
        exact ⟨v, by rw [if_neg hn]; exact .inl ⟨hw, h1⟩, h2⟩
      · rw [if_neg hw] at hx
        exact ⟨undef, by rw [if_neg hn]; exact .inr ⟨by simpa using hw, rfl⟩, hx⟩
  exact ⟨fun xs => Classical.choose (h1 xs), fun xs => (Classical.choose_spec (h1 xs)).1, fun xs => (Classical.choose_spec (h1 xs)).2⟩

theorem wpAnyN_lex (hs : Region.noSelect ops = true) : ∀ (l : List Oper) (k : Nat) (listed : Array Bool) (A : R.Ch → Act), (∀ j, l[j]? = ops[k + j]?) →
    Region.lexFrom .any ops l.length k listed = true → (∀ xs, wpN P ops R Q xs k l (A xs)) → wpAnyN P ops R Q l.length listed A
  | [], _, _, _, _, hB, h => ⟨by simpa [Region.lexFrom] using hB, h⟩
  | o :: l, k, listed, A, hl, hB, h => by
    have h0 : ops[k]? = some o := by simpa using (hl 0).symm
    simp only [List.length_cons, Region.lexFrom, Bool.and_eq_true] at hB
    obtain ⟨⟨hr, hf⟩, hB'⟩ := hB
    obtain ⟨v, hy, hK⟩ := yields_lex h
    exact wpAnyN_first h0 (Region.noSelect_spec hs) l.length listed A (Region.free_spec h0 hf) (by simpa using hr) hy
      (wpAnyN_lex hs l (k + 1) _ _ (fun j => by have := hl (j + 1); simpa [Nat.add_assoc, Nat.add_comm 1 j] using this) hB' hK)

/-! ### the static look -/
/-- the most that can have come up while 'k' has not. -/
def avoid (k : Nat) : List Oper → Nat → List Bool → List Bool
  | [], _, L => L
  | o :: l, i, L => avoid k l (i + 1) (L ++ [i != k && o.after.toList.all fun e => !Region.binds .any e || L.getD e.on false])
def lowB : List Oper → Nat → Bool
  | [], _ => true
  | o :: l, i => (o.after.toList.all fun e => !Region.binds .any e || decide (e.on < i)) && lowB l (i + 1)
def Reg.chk (R : Reg) (l : List Oper) : Bool :=
  lowB l 0 && decide (l.length ≤ 1000) && R.nd.all fun i => decide (i < l.length) && (R.hy i).all fun k => (R.nd.contains k && k != i) && !(avoid k l 0 []).getD i false && R.nd.all fun j => !(R.kills j).contains k || j == i || !(avoid i l 0 []).getD j false || !(avoid j l 0 []).getD k false
def Reg.chkLive (R : Reg) (l : List Oper) : Bool :=
  R.live.all fun k => R.nd.contains k && R.nd.all fun j => !(R.kills j).contains k || !(avoid j l 0 []).getD k false
def Down (ops : Array Oper) (listed : Array Bool) : Prop := ∀ j o, ops[j]? = some o → listed.getD j false = true → ∀ e ∈ o.after, Region.binds .any e = true → listed.getD e.on false = true

theorem lowB_spec : ∀ (l : List Oper) (i : Nat), lowB l i = true → ∀ j o, l[j]? = some o → ∀ e ∈ o.after, Region.binds .any e = true → e.on < i + j
  | [], _, _, j, o, h => by simp at h
  | o' :: l, i, hB, j, o, h => by
    simp only [lowB, Bool.and_eq_true, List.all_eq_true] at hB
    intro e he hb
    cases j with
    | zero =>
      simp at h; subst h
      have := hB.1 e (by simpa using he)
      rw [hb] at this
      simpa using this
    | succ j =>
      have := lowB_spec l (i + 1) hB.2 j o (by simpa using h) e he hb
      omega
theorem avoid_get (k : Nat) : ∀ (l : List Oper) (i : Nat) (L : List Bool), L.length = i → ∀ j, j < i → (avoid k l i L).getD j false = L.getD j false
  | [], _, _, _, _, _ => rfl
  | o :: l, i, L, hL, j, hj => by
    rw [avoid, avoid_get k l (i + 1) _ (by simp [hL]) j (by omega)]
    simp only [List.getD_eq_getElem?_getD]
    rw [List.getElem?_append_left (by omega)]
theorem avoid_spec (k : Nat) {listed : Array Bool} (hD : Down ops listed) (hk : listed.getD k false = false) :
    ∀ (l : List Oper) (i : Nat) (L : List Bool), L.length = i → (∀ j, l[j]? = ops[i + j]?) → lowB l i = true → (∀ j, j < i → listed.getD j false = true → L.getD j false = true) →
      ∀ j, j < i + l.length → listed.getD j false = true → (avoid k l i L).getD j false = true
  | [], i, L, _, _, _, h, j, hj, hl => h j (by simpa using hj) hl
  | o :: l, i, L, hL, hops, hB, h, j, hj, hl => by
    rw [avoid]
    have ho : ops[i]? = some o := by simpa using (hops 0).symm
    simp only [lowB, Bool.and_eq_true, List.all_eq_true] at hB
    refine avoid_spec k hD hk l (i + 1) _ (by simp [hL]) (fun j => by have := hops (j + 1); simpa [Nat.add_assoc, Nat.add_comm 1 j] using this) hB.2 ?_ j (by simp at hj; omega) hl
    intro j' hj' hl'
    by_cases e : j' = i
    · subst e
      simp only [List.getD_eq_getElem?_getD]
      rw [List.getElem?_append_right (by omega), hL, Nat.sub_self]
      simp only [List.getElem?_cons_zero, Option.getD_some, Bool.and_eq_true, List.all_eq_true, bne_iff_ne]
      refine ⟨fun e => ?_, fun e he => ?_⟩
      · rw [e, hk] at hl'; cases hl'
      · cases hb : Region.binds .any e with
        | false => rfl
        | true =>
          have h1 := hB.1 e he
          rw [hb] at h1
          have h2 := h e.on (by simpa using h1) (hD j' o ho hl' e (by simpa using he) hb)
          simpa using h2
    · simp only [List.getD_eq_getElem?_getD]
      rw [List.getElem?_append_left (by omega)]
      simpa [List.getD_eq_getElem?_getD] using h j' (by omega) hl'

/-- j comes up ahead of k, always. -/
def Bef (ops : Array Oper) (j k : Nat) : Prop := ∀ listed, Down ops listed → listed.getD k false = true → listed.getD j false = true
structure Chk (ops : Array Oper) (R : Reg) : Prop where
  few : ops.size ≤ 1000
  low : ∀ j o, ops[j]? = some o → ∀ e ∈ o.after, Region.binds .any e = true → e.on < j
  lt : ∀ i ∈ R.nd, i < ops.size
  hyN : ∀ i ∈ R.nd, ∀ k ∈ R.hy i, k ∈ R.nd ∧ k ≠ i
  hyP : ∀ i ∈ R.nd, ∀ k ∈ R.hy i, ∀ listed, Down ops listed → listed.getD i false = true → listed.getD k false = true
  hyK : ∀ i ∈ R.nd, ∀ k ∈ R.hy i, ∀ j ∈ R.nd, k ∈ R.kills j → j ≠ i → Bef ops i j ∨ Bef ops j k
  live : ∀ k ∈ R.live, k ∈ R.nd ∧ ∀ j ∈ R.nd, k ∈ R.kills j → Bef ops j k
theorem chk_spec {l : List Oper} (h : R.chk l = true) (hv : R.chkLive l = true) : Chk l.toArray R := by
  simp only [Reg.chk, Bool.and_eq_true, List.all_eq_true, decide_eq_true_eq] at h
  obtain ⟨⟨hlow, hfew⟩, h⟩ := h
  have key : ∀ i k, i < l.length → (avoid k l 0 []).getD i false = false → ∀ listed, Down l.toArray listed → listed.getD i false = true → listed.getD k false = true := by
    intro i k hi ha listed hD hl
    cases hk : listed.getD k false with
    | true => rfl
    | false =>
      have := avoid_spec k hD hk l 0 [] rfl (by simp) hlow (by simp) i (by simpa using hi) hl
      rw [ha] at this
      cases this
  simp only [Reg.chkLive, Bool.and_eq_true, List.all_eq_true] at hv
  refine ⟨by simpa using hfew, fun j o ho e he hb => by have := lowB_spec l 0 hlow j o (by simpa using ho) e he hb; omega, fun i hi => by simpa using (h i hi).1, fun i hi k hk => ?_, fun i hi k hk => ?_, fun i hi k hk j hj hkj hne => ?_, fun k hk => ?_⟩
  · have := ((h i hi).2 k hk).1.1
    simpa using this
  · have := ((h i hi).2 k hk).1.2
    exact key i k (h i hi).1 (by simpa using this)
  · have := ((h i hi).2 k hk).2 j hj
    simp only [Bool.or_eq_true, Bool.not_eq_true', beq_iff_eq] at this
    rcases this with ((h1 | h1) | h1) | h1
    · simp [hkj] at h1
    · exact absurd h1 hne
    · exact .inl (key j i (h j hj).1 h1)
    · exact .inr (key k j (h k (by have := ((h i hi).2 k hk).1.1; simp at this; exact this.1)).1 h1)
  · have hk' := hv k hk
    have hkn : k ∈ R.nd := by simpa using hk'.1
    refine ⟨hkn, fun j hj hkj => ?_⟩
    have := hk'.2 j hj
    simp only [Bool.or_eq_true, Bool.not_eq_true'] at this
    rcases this with h1 | h1
    · simp [hkj] at h1
    · exact key k j (h k hkn).1 h1

theorem ready_nil_all (hC : Chk ops R) {listed : Array Bool} (hr : Region.ready .any ops listed = []) (hs : listed.size = ops.size) : ∀ i, i < ops.size → listed.getD i false = true := by
  intro i
  induction i using Nat.strongRecOn with
  | _ i ih =>
    intro hi
    cases hl : listed.getD i false with
    | true => rfl
    | false =>
      exfalso
      have : i ∈ Region.ready .any ops listed := by
        rw [mem_ready]
        refine ⟨?_, ops[i], by simp [hi], fun e he hb => ?_⟩
        · have hi' : i < listed.size := by omega
          simp [hi'] at hl ⊢
          exact hl
        · have := hC.low i ops[i] (by simp [hi]) e he hb
          exact ih e.on this (by omega)
      rw [hr] at this
      cases this

def upd (xs : R.Ch) (i : Nat) (x : (R.K i).X) : R.Ch := fun j => if h : j = i then h ▸ x else xs j
theorem upd_same (xs : R.Ch) (i : Nat) (x : (R.K i).X) : upd xs i x i = x := by simp [upd]
theorem upd_ne (xs : R.Ch) (i j : Nat) (x : (R.K i).X) (h : j ≠ i) : upd xs i x j = xs j := by simp [upd, h]

def Facts (ops : Array Oper) (R : Reg) (listed : Array Bool) (xs : R.Ch) (w : World) : Prop :=
  ∀ k ∈ R.nd, listed.getD k false = true → (∀ j ∈ R.nd, listed.getD j false = true → k ∈ R.kills j → Bef ops j k) → (R.K k).V (xs k) w
theorem I_mono {m n : Nat} {w : World} (h : R.I m w) (hmn : m ≤ n) : R.I n w := by
  induction hmn with
  | refl => exact h
  | step _ ih => exact R.mono _ _ ih
theorem getD_set_self {listed : Array Bool} {i : Nat} (hi : i < listed.size) : (listed.setIfInBounds i true).getD i false = true := by simp [hi]
theorem getD_tf {listed : Array Bool} {i : Nat} (h : listed.getD i true = false) : listed.getD i false = false := by
  rcases Nat.lt_or_ge i listed.size with h' | h'
  · simp [h'] at h ⊢; exact h
  · simp [Array.getElem?_eq_none h']

theorem wpAny_of_N (hC : Chk ops R) : ∀ (fuel : Nat) (listed : Array Bool) (A : R.Ch → Act) (xs : R.Ch) (w : World) (m : Nat), m + fuel = ops.size → listed.size = ops.size → Down ops listed → R.I m w → Facts ops R listed xs w →
    (∀ xs' : R.Ch, (∀ k ∈ R.nd, listed.getD k false = true → xs' k = xs k) → A xs' = A xs) → wpAnyN P ops R Q fuel listed A → wpAny P .any ops Q fuel listed (A xs) w := by
  intro fuel
  induction fuel with
  | zero =>
    intro listed A xs w m hm hs hD hI hF hA h
    refine ⟨h.1, h.2 xs w (I_mono hI (by omega)) fun k hk => hF k (hC.live k hk).1 (ready_nil_all hC h.1 hs k (hC.lt k (hC.live k hk).1)) fun j hj' _ => (hC.live k hk).2 j hj'⟩
  | succ fuel ih =>
    intro listed A xs w m hm hs hD hI hF hA h
    refine ⟨fun hr => h.1 hr xs w (I_mono hI (by omega)) fun k hk => hF k (hC.live k hk).1 (ready_nil_all hC hr hs k (hC.lt k (hC.live k hk).1)) fun j hj' _ => (hC.live k hk).2 j hj', fun i hi => ?_⟩
    obtain ⟨hun, o, ho, hall⟩ := mem_ready.1 hi
    have hlt : i < ops.size := (Array.getElem?_eq_some_iff.1 ho).1
    have hun' : listed.getD i false = false := getD_tf hun
    have hD' : Down ops (listed.setIfInBounds i true) := by
      intro j oj hj hl e he hb
      by_cases e1 : j = i
      · subst e1
        rw [ho] at hj; injection hj with hj; subst hj
        exact getD_set_true (hall e he hb)
      · rw [getD_set_ne false (Ne.symm e1)] at hl
        exact getD_set_true (hD j oj hj hl e he hb)
    have hs' : (listed.setIfInBounds i true).size = ops.size := by simpa using hs
    have hl' : (listed.setIfInBounds i true).getD i false = true := getD_set_self (by omega)
    have h1 := h.2 i hi
    unfold nOp at h1
    simp only [ho] at h1
    obtain ⟨val, hy, hK⟩ := h1
    have hyx := hy xs
    unfold wpOp
    simp only [ho]
    by_cases hn : R.nd.contains i = true
    · rw [if_pos hn] at hyx
      obtain ⟨hw, hv, hO⟩ := hyx
      rw [if_pos hw]
      have hin : i ∈ R.nd := by simpa using hn
      have hyp : R.hyps i xs w := fun k hk => by
        have hkl : listed.getD k false = true := by
          have := hC.hyP i hin k hk _ hD' hl'
          rwa [getD_set_ne false (Ne.symm (hC.hyN i hin k hk).2)] at this
        refine hF k (hC.hyN i hin k hk).1 hkl fun j hj hjl hkj => ?_
        by_cases e : j = i
        · subst e; rw [hun'] at hjl; cases hjl
        · rcases hC.hyK i hin k hk j hj hkj e with h1 | h1
          · have := h1 listed hD hjl
            rw [hun'] at this; cases this
          · exact h1
      refine .inl (wp_of_yields ?_ (hO m w (by have := hC.few; omega) hI hyp))
      rintro v w' ⟨x, rfl, hx, hI', hkeep⟩
      have hA1 : A (upd xs i x) = A xs := hA _ fun k hk hkl => upd_ne xs i k x fun e => by subst e; rw [hun'] at hkl; cases hkl
      have hv1 : val (upd xs i x) = (R.K i).enc x := by
        have := hy (upd xs i x)
        rw [if_pos hn] at this
        rw [this.2.1, upd_same]
      have := ih (listed.setIfInBounds i true) (fun xs => (A xs).put o.dst (val xs)) (upd xs i x) w' (m + 1) (by omega) hs' hD' hI' ?_ ?_ hK
      · simpa only [hA1, hv1] using this
      · intro k hk hkl hkj
        by_cases e : k = i
        · subst e; rw [upd_same]; exact hx
        · rw [upd_ne xs i k x e]
          rw [getD_set_ne false (Ne.symm e)] at hkl
          refine hkeep k hk e (fun hki => ?_) _ (hF k hk hkl fun j hj hjl => hkj j hj (getD_set_true hjl))
          have := hkj i hin hl' hki listed hD hkl
          rw [hun'] at this; cases this
      · intro xs' hxs'
        have hxi : xs' i = x := by rw [hxs' i hin hl', upd_same]
        have h2 := hy xs'
        rw [if_pos hn] at h2
        have : A xs' = A xs := hA xs' fun k hk hkl => by
          have hki : k ≠ i := fun e => by subst e; rw [hun'] at hkl; cases hkl
          rw [hxs' k hk (getD_set_true hkl), upd_ne xs i k x hki]
        show (A xs').put o.dst (val xs') = (A (upd xs i x)).put o.dst (val (upd xs i x))
        rw [this, hA1, h2.2.1, hv1, hxi]
    · rw [if_neg hn] at hyx
      have hnot : ∀ k ∈ R.nd, (listed.setIfInBounds i true).getD k false = true → listed.getD k false = true := fun k hk hkl => by
        have hki : i ≠ k := fun e => by subst e; exact hn (by simpa using hk)
        rwa [getD_set_ne false hki] at hkl
      have hF' : Facts ops R (listed.setIfInBounds i true) xs w := fun k hk hkl hkj => hF k hk (hnot k hk hkl) fun j hj hjl => hkj j hj (getD_set_true hjl)
      have hgo : wpAny P .any ops Q fuel (listed.setIfInBounds i true) ((A xs).put o.dst (val xs)) w := by
        refine ih (listed.setIfInBounds i true) (fun xs => (A xs).put o.dst (val xs)) xs w (m + 1) (by omega) hs' hD' (R.mono _ _ hI) hF' ?_ hK
        intro xs' hxs'
        have hAx : A xs' = A xs := hA xs' fun k hk hkl => hxs' k hk (getD_set_true hkl)
        show (A xs').put o.dst (val xs') = (A xs).put o.dst (val xs)
        have h2 := hy xs'
        rw [if_neg hn, hAx] at h2
        rw [hAx]
        congr 1
        rcases hyx with ⟨hw1, hd1⟩ | ⟨hw1, hv1⟩
        · rcases h2 with ⟨hw2, hd2⟩ | ⟨hw2, hv2⟩
          · exact detAt_one (hd2 w ⟨m, hI⟩) (hd1 w ⟨m, hI⟩)
          · rw [hw1] at hw2; cases hw2
        · rcases h2 with ⟨hw2, hd2⟩ | ⟨hw2, hv2⟩
          · rw [hw1] at hw2; cases hw2
          · rw [hv1, hv2]
      rcases hyx with ⟨hw, hd⟩ | ⟨hw, hv⟩
      · rw [if_pos hw]
        refine .inl (wp_of_yields (G := fun v w' => v = val xs ∧ w' = w) ?_ (yields_of_det (hd w ⟨m, hI⟩) ⟨rfl, rfl⟩))
        rintro v w' ⟨rfl, rfl⟩
        exact hgo
      · rw [if_neg (by rw [hw]; simp)]
        rw [← hv]
        exact hgo

/-- one walk of the text's order, for every choice, serves every order. -/
theorem wp_region_N (R : Reg) {id : Nat} {a : Act} {w : World} {l : List Oper} (hm : P.follows .mixedOrders = true) (hB : Region.lexB .any l.toArray = true) (hc : (R.chk l && R.chkLive l) = true)
    (hI : R.I 0 { w with drawn := w.drawn + 1 }) (h : ∀ xs, wpN P l.toArray R Q xs 0 l a) : (Code.region id l.toArray true).wp P Q a w := by
  simp only [Region.lexB, Bool.and_eq_true] at hB
  rw [Bool.and_eq_true] at hc
  refine wp_region_any hm ?_
  have hl := wpAnyN_lex (P := P) (R := R) (Q := Q) hB.1 l 0 (Array.replicate l.toArray.size false) (fun _ => a) (by simp) (by simpa using hB.2) h
  have hxs : Nonempty R.Ch := ⟨fun i => Classical.choice (R.ne i)⟩
  obtain ⟨xs⟩ := hxs
  have := wpAny_of_N (chk_spec hc.1 hc.2) l.length (Array.replicate l.toArray.size false) (fun _ => a) xs _ 0 (by simp) (by simp) ?_ hI ?_ (fun _ _ => rfl) hl
  · simpa using this
  · intro j o ho hl'
    exfalso
    simp [Array.getElem?_replicate] at hl'
    split at hl' <;> simp at hl'
  · intro k hk hl'
    exfalso
    simp [Array.getElem?_replicate] at hl'
    split at hl' <;> simp at hl'

/-! ### the steps of the walk -/
/-- no operation that enters a function. -/
def noEnterB (o : Oper) : Bool :=
  match o.op with
  | .move _ | .assign _ | .pick .. | .load .. | .binOp .. | .unOp .. | .convert .. | .slice .. | .fieldAddr .. | .field .. | .indexAddr .. | .index .. | .extract .. | .build .. => true
  | .call c => match c.callee with
    | .builtin .len => true
    | _ => false
  | _ => false
theorem run_v (s : Sem Value) (w : World) (f : FuncId) (args : Array Value) (w' : World) : (do let x ← s; pure (Next.value x) : Sem Next).run P w ≠ .ok (.enter f args) w' := by
  intro h
  simp only [Sem.run_bind] at h
  cases hs : s.run P w with
  | ok x w1 => rw [hs] at h; simp [Result.andThen, Sem.run_pure] at h
  | halt x w1 => rw [hs] at h; simp [Result.andThen] at h
theorem noEnter {o : Oper} (h : noEnterB o = true) (ρ : Operand → Value) (w : World) (f : FuncId) (args : Array Value) (w' : World) : (execOp ρ o).run P w ≠ .ok (.enter f args) w' := by
  obtain ⟨dst, op, type, pos, after, guard⟩ := o
  cases op <;> simp [noEnterB] at h
  case call c =>
    obtain ⟨callee, args', tys⟩ := c
    cases callee <;> simp at h
    case builtin b =>
      cases b <;> simp at h
      simp only [execOp, resolve, pure_bind, invoke, builtin]
      exact run_v _ _ _ _ _
  all_goals simp only [execOp]
  all_goals first
    | exact run_v _ _ _ _ _
    | (intro h2; simp [Sem.run_pure] at h2; done)
    | (intro h2
       rename_i c1 a1 b1
       simp only [Sem.run_bind] at h2
       cases hs : (asBool (ρ c1)).run P w with
       | ok x w1 => rw [hs] at h2; simp [Result.andThen, Sem.run_pure] at h2
       | halt x w1 => rw [hs] at h2; simp [Result.andThen] at h2)
theorem detAt_of_quiet {o : Oper} {a : Act} {C : World → Prop} {w : World} {v : Value} (h : noEnterB o = true) (hq : o.quietAt P a C w v) : detAt P o a w v := by
  unfold Oper.quietAt at hq
  unfold detAt
  have hne := noEnter (P := P) h a.eval w
  generalize (execOp a.eval o).run P w = r at *
  cases r with
  | ok n w' =>
    cases n <;> simp only [Oper.quietUpon] at hq ⊢
    case value x => exact hq
    case skip => exact hq
    case enter f args => exact absurd rfl (hne f args w')
  | halt x w' => exact hq.elim
theorem wpN_det {xs : R.Ch} {i : Nat} {o : Oper} {l : List Oper} {a : Act} (hn : R.nd.contains i = false) (hne : noEnterB o = true) (hw : Region.wanted o (yielded ops a.tmps) = true)
    (h : ∀ K : Act → Prop, (∀ a, wpN P ops R Q xs (i + 1) l a → K a) → o.quiet P a (fun w => ∃ u : R.W, w = u.1) K) : wpN P ops R Q xs i (o :: l) a := by
  obtain ⟨v, h1, h2⟩ := h _ fun _ h => h
  unfold wpN
  rw [if_neg (by rw [hn]; simp), if_pos hw]
  exact ⟨v, fun w hm => detAt_of_quiet hne (h1 w ⟨⟨w, hm⟩, rfl⟩), h2⟩
theorem wpN_skip {xs : R.Ch} {i : Nat} {o : Oper} {l : List Oper} {a : Act} (hn : R.nd.contains i = false) (hw : Region.wanted o (yielded ops a.tmps) = false)
    (h : wpN P ops R Q xs (i + 1) l (a.put o.dst undef)) : wpN P ops R Q xs i (o :: l) a := by
  unfold wpN
  rw [if_neg (by rw [hn]; simp), if_neg (by rw [hw]; simp)]
  exact h
theorem wpN_nd {xs : R.Ch} {i : Nat} {o : Oper} {l : List Oper} {a : Act} (hn : R.nd.contains i = true) (hw : Region.wanted o (yielded ops a.tmps) = true)
    (hO : Obl P R i o a xs) (h : ∀ x, xs i = x → wpN P ops R Q xs (i + 1) l (a.put o.dst ((R.K i).enc x))) : wpN P ops R Q xs i (o :: l) a := by
  unfold wpN
  rw [if_pos hn]
  exact ⟨hw, hO, h _ rfl⟩
theorem wpN_end {xs : R.Ch} {i : Nat} {a : Act} (h : ∀ w, R.I ops.size w → (∀ k ∈ R.live, (R.K k).V (xs k) w) → Q .normal a w) : wpN P ops R Q xs i [] a := by
  unfold wpN Fin
  exact h
end
end Go.Proofs.Ytjmiilneennjaaa

namespace Go.Proofs.Ytjmiilneennjaaa
open Go.RowKit
set_option maxHeartbeats 400000
set_option maxRecDepth 100000
set_option linter.unusedVariables false

abbrev u8s (zs : List Int) : List Value := zs.map (Value.int .u8)
/-- The reader lies in block br; at most N picks were made. -/
def Rd (w : World) (br N : Nat) : Prop :=
  ∃ A c, ∃ zs : List Int, ∃ p : Nat, p ≤ N ∧ zs.length ≤ 9223372036854775807 ∧ w.heap[br]? = some (.cells #[.slice A zs.length c, .int .i64 p] 114 (0, 0)) ∧ Sl w A (u8s zs) ∧ (∀ a, A = some a → zs = [] ∨ a.block < br) ∧ ∀ z ∈ zs, 0 ≤ z ∧ z ≤ 255

theorem Rd.lt {w : World} {br N : Nat} (h : Rd w br N) : br < w.heap.size := by
  obtain ⟨A, c, zs, p, _, _, hb, _⟩ := h
  exact (Array.getElem?_eq_some_iff.1 hb).1
theorem Rd.grown {w w' : World} {br N : Nat} {row : Option Nat} (h : Rd w br N) (hg : w.grownBy w' row) (hne : ∀ g, row = some g → br < g) : Rd w' br N := by
  obtain ⟨A, c, zs, p, hp, hl, hb, hs, hne', hz⟩ := h
  refine ⟨A, c, zs, p, hp, hl, (hg.block br (Array.getElem?_eq_some_iff.1 hb).1 (fun e => by have := hne br e.symm; omega)).trans hb, ?_, hne', hz⟩
  by_cases h0 : zs = []
  · subst h0; exact .inl rfl
  · refine hs.grown hg (fun a ha e => ?_)
    have h1 := hne a.block e.symm
    rcases hne' a ha with h2 | h2
    · exact h0 h2
    · omega
theorem Rd.below {w w' : World} {br N : Nat} (h : Rd w br N) (hb : Below w.heap.size w w') : Rd w' br N :=
  h.grown (grown_of_below hb none) (by simp)
/-- the reader stands, where a younger row of the call's own has grown. -/
theorem Rd.app {b c : World} {br N : Nat} {v : Value} {base : Nat} {e : TypeId} {size n : Nat} {xs : List Value} (h : Rd b br N) (hown : b.ownsRow base e size v n xs) (hbr : br < base) (k : b.grownBy c v.ownBlock) : Rd c br N :=
  h.grown k (fun g hg => Nat.lt_of_lt_of_le hbr (hown.lt g hg).1)
theorem Rd.drewN {w : World} {br N : Nat} (h : Rd w br N) (k : Nat) : Rd (w.drewN k) br N := h
theorem Rd.mono {w : World} {br N M : Nat} (h : Rd w br N) (hM : N ≤ M) : Rd w br M := by
  obtain ⟨A, c, zs, p, hp, h'⟩ := h
  exact ⟨A, c, zs, p, Nat.le_trans hp hM, h'⟩

theorem xor_div_nonneg (x : Int) (h : 0 ≤ x) (h' : x ≤ 9223372036854775807) : 0 ≤ bits .xor .i64 x (x / 64) := by
  obtain ⟨a, rfl⟩ := Int.eq_ofNat_of_zero_le h
  have hd : ((a : Int) / 64) = ((a / 64 : Nat) : Int) := by omega
  rw [hd]
  have ho : ∀ m : Nat, m < 9223372036854775808 → (BitVec.ofInt 64 (m : Int)).toNat = m := fun m hm => by
    rw [BitVec.ofInt_natCast, BitVec.toNat_ofNat]; exact Nat.mod_eq_of_lt (by omega)
  have hx : a ^^^ (a / 64) < 2 ^ 63 := Nat.xor_lt_two_pow (by omega) (by omega)
  show 0 ≤ IntKind.i64.wrap ((BitVec.ofInt 64 (a : Int) ^^^ BitVec.ofInt 64 ((a / 64 : Nat) : Int)).toNat : Int)
  rw [BitVec.toNat_xor, ho a (by omega), ho (a / 64) (by omega), IntKind.wrap_i64]
  omega

/-- What a pick hands back. -/
def Picked (n : Int) (br N : Nat) (w : World) (e : Ending) (w' : World) : Prop :=
  ∃ r : Int, e = .returned (.int .i64 r) ∧ 0 ≤ r ∧ (1 ≤ n → r < n) ∧ Rd w' br (N + 1) ∧ w.grownBy w' (some br)
theorem pick_any (n : Int) (br N : Nat) (w : World) (hN : N ≤ 1000000000) (h : Rd w br N) :
    Calls Try.prog 68 #[.pointer (some ⟨br, 0, none⟩), .int .i64 n] w (Picked n br N w) := by
  obtain ⟨A, c, zs, p, hp, hl, hb, hs, hne, hz⟩ := h
  have hc0 : w.cell? ⟨br, 0, none⟩ = some (.slice A zs.length c) := by rw [cell_of_row w br 0 _ _ _ hb]; rfl
  have hc1 : w.cell? ⟨br, 1, none⟩ = some (.int .i64 p) := by rw [cell_of_row w br 1 _ _ _ hb]; rfl
  have hf1 : w.frozen? ⟨br, 1, none⟩ = false := frozen_of_row w br 1 _ _ hb
  have hend : ∀ k, Rd ((w.setCell ⟨br, 1, none⟩ (.int .i64 (p + 1))).drewN k) br (N + 1) := fun k => by
    refine ⟨A, c, zs, p + 1, by omega, hl, ?_, ?_, hne, hz⟩
    · have := heap_setCell_same w br 1 _ 114 (.int .i64 ((p : Int) + 1)) hb
      exact this
    · rcases hs with h0 | ⟨b, off, rfl, hc⟩
      · exact .inl h0
      · refine .inr ⟨b, off, rfl, fun j u hu => ?_⟩
        have hb' : b ≠ br := by
          rcases hne _ rfl with h0 | h0
          · subst h0; simp at hu
          · have h0' : b < br := h0
            omega
        show (w.setCell ⟨br, 1, none⟩ (.int .i64 ((p : Int) + 1))).cell? _ = _
        rw [World.cell?_setCell_other _ _ _ _ (by intro e; injection e with e1; exact hb' e1.symm)]
        exact hc j u hu
  have HE := mkHid hend
  have hgr : ∀ k, w.grownBy ((w.setCell ⟨br, 1, none⟩ (.int .i64 (p + 1))).drewN k) (some br) := fun k => grown_drewN (grown_setCell w br 1 _) k
  have HG := mkHid hgr
  clear hend hgr hb
  by_cases hn : n < 1
  · go_enter Try.func68, Try.ntmps68
    go_wp2
    go_ret
    exact ⟨0, rfl, by omega, by omega, HE.out 0, HG.out 0⟩
  · by_cases hz0 : zs.length = 0
    · obtain rfl : zs = [] := List.eq_nil_of_length_eq_zero hz0
      go_enter Try.func68, Try.ntmps68
      go_wp2
      go_ret
      exact ⟨0, rfl, by omega, fun h => h, HE.out 0, HG.out 0⟩
    · have hb0 : (((zs.length : Nat) : Int) == 0) = false := by rw [beq_eq_false_iff_ne]; omega
      obtain ⟨b, off, rfl, hc⟩ := hs.at_ (k := 0) (by simp; omega)
      have hbr : b ≠ br := by
        rcases hne _ rfl with h0 | h0
        · subst h0; simp at hz0
        · show b ≠ br
          have h0' : b < br := h0
          omega
      by_cases hk : p < zs.length
      · have h1 : w.cell? ⟨b, off + p, none⟩ = some (.int .u8 zs[p]) := hc p _ (by simp [hk])
        have h2 := hz zs[p] (List.getElem_mem hk)
        generalize zs[p] = y at h1 h2
        clear hz hc hs hz0 hne
        go_enter Try.func68, Try.ntmps68
        go_wp2
        go_ret
        exact ⟨_, rfl, Int.emod_nonneg _ (by omega), fun _ => Int.emod_lt_of_pos _ (by omega), HE.out 0, HG.out 0⟩
      · have hm1 : p % zs.length < zs.length := Nat.mod_lt _ (by omega)
        have hm2 : (p * 7 + 3) % zs.length < zs.length := Nat.mod_lt _ (by omega)
        have h1 : w.cell? ⟨b, off + p % zs.length, none⟩ = some (.int .u8 zs[p % zs.length]) := hc _ _ (by simp [hm1])
        have h2 : w.cell? ⟨b, off + (p * 7 + 3) % zs.length, none⟩ = some (.int .u8 zs[(p * 7 + 3) % zs.length]) := hc _ _ (by simp [hm2])
        have hy1 := hz zs[p % zs.length] (List.getElem_mem hm1)
        have hy2 := hz zs[(p * 7 + 3) % zs.length] (List.getElem_mem hm2)
        generalize zs[p % zs.length] = y1 at h1 hy1
        generalize zs[(p * 7 + 3) % zs.length] = y2 at h2 hy2
        have hq : p / zs.length ≤ p := Nat.div_le_self _ _
        clear hz hc hs hne
        generalize zs.length = L at *
        have i1 : 0 ≤ (p : Int) % (L : Int) := Int.emod_nonneg _ (by omega)
        have i2 : (p : Int) % (L : Int) < (L : Int) := Int.emod_lt_of_pos _ (by omega)
        have i3 : 0 ≤ ((p : Int) * 7 + 3) % (L : Int) := Int.emod_nonneg _ (by omega)
        have i4 : ((p : Int) * 7 + 3) % (L : Int) < (L : Int) := Int.emod_lt_of_pos _ (by omega)
        have i5 : 0 ≤ (p : Int) / (L : Int) := Int.ediv_nonneg (by omega) (by omega)
        have i6 : (p : Int) / (L : Int) ≤ (p : Int) := Int.ediv_le_self _ (by omega)
        clear hq
        go_enter Try.func68, Try.ntmps68
        go_wp2
        go_quiet (fail)
        go_wp2
        go_ret
        refine ⟨_, rfl, ?_, ?_, HE.out nq, HG.out nq⟩
        all_goals rw [Int.tmod_eq_emod_of_nonneg (xor_div_nonneg _ (by omega) (by omega))]
        · exact Int.emod_nonneg _ (by omega)
        · exact fun _ => Int.emod_lt_of_pos _ (by omega)

/-- The reader is opened: in a new block. -/
def Opened (w : World) (e : Ending) (w' : World) : Prop :=
  ∃ br, e = .returned (.pointer (some ⟨br, 0, none⟩)) ∧ w.heap.size ≤ br ∧ Rd w' br 0 ∧ Below w.heap.size w w'
theorem Rd_new (w : World) (A : Option Addr) (c : Nat) (zs : List Int) (hl : zs.length ≤ 9223372036854775807) (hs : Sl w A (u8s zs)) (hz : ∀ z ∈ zs, 0 ≤ z ∧ z ≤ 255) :
    Rd (w.alloc (.cells #[.slice A zs.length c, .int .i64 0] 114)) w.heap.size 0 := by
  refine ⟨A, c, zs, 0, Nat.le_refl _, hl, heap_alloc_new w _, hs.alloc _, fun a ha => ?_, hz⟩
  by_cases h0 : zs = []
  · exact .inl h0
  · right
    obtain ⟨b, off, rfl, hc⟩ := hs.at_ (k := 0) (by simp; exact List.length_pos_iff.2 h0)
    injection ha with ha
    subst ha
    have hp : 0 < zs.length := List.length_pos_iff.2 h0
    have := World.block_lt_of_cell? w _ (hc 0 (.int .u8 zs[0]) (by simp [hp]))
    exact this
theorem l20Open_any (A : Option Addr) (c : Nat) (zs : List Int) (w : World) (hl : zs.length ≤ 9223372036854775807) (hcap : zs.length ≤ c) (hs : Sl w A (u8s zs)) (hz : ∀ z ∈ zs, 0 ≤ z ∧ z ≤ 255) :
    Calls Try.prog 54 #[.slice A zs.length c] w (Opened w) := by
  by_cases h : 2000 < zs.length
  · have hn := Rd_new w A c (zs.take 2000) (by simp; omega) (by
      rcases hs with h0 | ⟨b, off, rfl, hc⟩
      · exact .inl (by simp at h0; subst h0; simp at h)
      · refine .inr ⟨b, off, rfl, fun j u hu => hc j u ?_⟩
        simp only [u8s, List.map_take, List.getElem?_take] at hu
        split at hu
        · exact hu
        · cases hu) (fun z hz' => hz z (List.mem_of_mem_take hz'))
    have hlen : (zs.take 2000).length = 2000 := by simp; omega
    rw [hlen] at hn
    have HN := mkHid hn
    obtain ⟨b, off, rfl, hc⟩ := hs.at_ (k := 0) (by simp; omega)
    clear hn hlen hc hs
    go_enter Try.func54, Try.ntmps54
    go_wp2
    go_ret
    exact ⟨_, rfl, Nat.le_refl _, HN.out, (Below.refl _ _).alloc (Nat.le_refl _) _⟩
  · have HN := mkHid (Rd_new w A c zs hl hs hz)
    clear hs
    go_enter Try.func54, Try.ntmps54
    go_wp2
    go_ret
    exact ⟨_, rfl, Nat.le_refl _, HN.out, (Below.refl _ _).alloc (Nat.le_refl _) _⟩
end Go.Proofs.Ytjmiilneennjaaa

namespace Go.Proofs.Ytjmiilneennjaaa
open Go.RowKit
set_option maxHeartbeats 400000
set_option maxRecDepth 100000
set_option linter.unusedVariables false

/-- a number in lo..hi. -/
def kInt (lo hi : Int) : Kind := ⟨{ r : Int // lo ≤ r ∧ r ≤ hi }, fun r => .int .i64 r.1, fun _ _ => True⟩
theorem kInt_ne (lo hi : Int) (h : lo ≤ hi) : Nonempty (kInt lo hi).X := ⟨⟨lo, Int.le_refl _, h⟩⟩
/-- a literal slice of n numbers in lo..hi, in a block from base on. -/
def LitAt (base n : Nat) (lo hi : Int) (g : Nat) (w : World) : Prop :=
  base ≤ g ∧ ∃ zs : List Int, zs.length = n ∧ (∀ z ∈ zs, lo ≤ z ∧ z ≤ hi) ∧ ∀ j u, (ints zs)[j]? = some u → w.cell? ⟨g, 0 + j, none⟩ = some u
def kLit (base n : Nat) (lo hi : Int) : Kind := ⟨Nat, fun g => .slice (some ⟨g, 0, none⟩) n n, LitAt base n lo hi⟩
theorem kLit_ne (base n : Nat) (lo hi : Int) : Nonempty (kLit base n lo hi).X := ⟨(0 : Nat)⟩
def kNone : Kind := ⟨Unit, fun _ => undef, fun _ _ => True⟩

theorem LitAt.grown {base n : Nat} {lo hi : Int} {g br : Nat} {w w' : World} (h : LitAt base n lo hi g w) (hbr : br < base) (hg : w.grownBy w' (some br)) : LitAt base n lo hi g w' := by
  obtain ⟨hb, zs, h1, h2, h3⟩ := h
  refine ⟨hb, zs, h1, h2, fun j u hu => hg.cell (h3 j u hu) ?_⟩
  show some g ≠ some br
  intro e; injection e with e; omega
theorem LitAt.new {base : Nat} {lo hi : Int} (w : World) (zs : List Int) (e : TypeId) (hb : base ≤ w.heap.size) (hz : ∀ z ∈ zs, lo ≤ z ∧ z ≤ hi) : LitAt base zs.length lo hi w.heap.size (w.alloc (.cells (ints zs).toArray e)) := by
  refine ⟨hb, zs, rfl, hz, fun j u hu => ?_⟩
  have := newCells w (ints zs) e j u hu
  rw [add_flat] at this
  exact this
theorem LitAt.at_ {base n : Nat} {lo hi : Int} {g : Nat} {w : World} (h : LitAt base n lo hi g w) {j : Nat} (hj : j < n) : ∃ z, lo ≤ z ∧ z ≤ hi ∧ w.cell? ⟨g, 0 + j, none⟩ = some (.int .i64 z) := by
  obtain ⟨hb, zs, h1, h2, h3⟩ := h
  have hj' : j < zs.length := by omega
  exact ⟨zs[j], (h2 _ (List.getElem_mem hj')).1, (h2 _ (List.getElem_mem hj')).2, h3 j _ (ints_at hj')⟩

/-- the worlds of a region that draws. -/
def drawI (br N : Nat) (w0 : World) (m : Nat) (w : World) : Prop := Rd w br (N + m) ∧ w0.grownBy w (some br)
theorem drawI_mono (br N : Nat) (w0 : World) (m : Nat) (w : World) (h : drawI br N w0 m w) : drawI br N w0 (m + 1) w := ⟨h.1.mono (by omega), h.2⟩
theorem drawI_alloc {br N : Nat} {w0 : World} {m : Nat} {w : World} (h : drawI br N w0 m w) (o : Obj) : drawI br N w0 (m + 1) (w.alloc o) :=
  ⟨(h.1.below ((Below.refl _ _).alloc (Nat.le_refl _) _)).mono (by omega), grown_trans h.2 (World.grownBy_alloc _ _ _)⟩
theorem drawI_pick {br N : Nat} {w0 : World} {m : Nat} {w w' : World} (h : drawI br N w0 m w) (hr : Rd w' br (N + m + 1)) (hg : w.grownBy w' (some br)) : drawI br N w0 (m + 1) w' :=
  ⟨hr, grown_trans h.2 hg⟩
theorem drawI_start {br N : Nat} {w0 : World} (h : Rd w0 br N) : drawI br N w0 0 { w0 with drawn := w0.drawn + 1 } := ⟨h, ⟨rfl, rfl, rfl, Nat.le_refl _, fun _ _ _ => rfl⟩⟩
end Go.Proofs.Ytjmiilneennjaaa
