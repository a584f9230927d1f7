/-
  Proved: FnGraphReach returns true for every code.
-/
import Derived.Test.YtabpcbikbhbcaaaDGraphs
import Derived.Test.YtabpcbikbhbcaaaPlainReach4
import Derived.Test.YtabpcbikbhbcaaaCPost
import Derived.Test.YtabpcbikbhbcaaaFrame
namespace Go.Proofs.Ytabpcbikbhbcaaa
open Go.ChangeShapes Go.WideShapes Go.ChangeAt Go.RowKit
set_option maxHeartbeats 2000000
set_option maxRecDepth 100000
set_option linter.unusedVariables false

theorem graphReach_no {g : List (List Int)} {a b : Int} (h : reachOk g a b = false) : graphReach g a b = [] := by unfold graphReach; rw [h]; rfl
theorem graphReach_yes {g : List (List Int)} {a b : Int} (h : reachOk g a b = true) : graphReach g a b = reachB g a b := by unfold graphReach; rw [h]; rfl
theorem reachOk_parts {g : List (List Int)} {a b : Int} (h : reachOk g a b = true) : graphValid g = true ∧ (0 ≤ a ∧ a < g.length) ∧ -1 ≤ b ∧ b < g.length := by
  unfold reachOk at h
  rw [Bool.and_eq_true, Bool.and_eq_true] at h
  have h1 := inB_t h.1.2
  have h2 := inB_t h.2
  exact ⟨h.1.1, by omega, by omega⟩
theorem graphReach_walk (A : Option Addr) (c : Nat) (zs : List Int) (w : World) (hl : zs.length ≤ 9223372036854775807) (hcap : zs.length ≤ c) (hs : Sl w A (u8s zs)) (hz : ∀ z ∈ zs, 0 ≤ z ∧ z ≤ 255) :
    Calls Try.prog 8 #[.slice A zs.length c] w fun e w' => e = .returned (.bool true) ∧ Below w.heap.size w w' := by
  by_cases hbig : 1048576 < zs.length
  · go_enter Try.func8, Try.ntmps8
    go_wp2_with fail
    go_ret
    exact ⟨rfl, Below.refl _ _⟩
  · go_enter Try.func8, Try.ntmps8
    go_wp2_with fail
    refine (drawGraphReach_any _ _ _ _ hl hcap hs hz).mono ?_
    rintro e w1 ⟨A1, c1, rs, a, b, rfl, ha1, ha2, hb1, hb2, g1, hn1, hn2, hr1, b1⟩
    have G1 := mkHid g1
    have B1 := mkHid b1
    have HR := mkHid hr1
    clear g1 b1 hr1 hs hz
    obtain ⟨n, hn⟩ : ∃ n, n = List.length rs := ⟨_, rfl⟩
    have HN := mkHid hn
    have hgl : (graph rs).length = n := by rw [hn]; simp
    have HGL := mkHid hgl
    have himpl := fun q w hs => implGraphReach_any A1 c1 rs a q w (by omega) hs
    have hspec := fun w hs => specGraphReach_any A1 c1 rs a b w (by omega) hs
    rw [← hn] at himpl hspec hn1 hn2 ha2 hb2 ⊢
    obtain ⟨ok, hok⟩ : ∃ ok, ok = reachOk (graph rs) a b := ⟨_, rfl⟩
    have HOK := mkHid hok
    obtain ⟨bs, hbs⟩ : ∃ bs, bs = graphReach (graph rs) a b := ⟨_, rfl⟩
    have hib := himpl b
    rw [← hbs] at hib hspec
    have HBS := mkHid hbs
    have HIM := mkHid hib
    have HSP := mkHid hspec
    have HIM1 := mkHid (himpl (-1))
    clear hn hgl himpl hspec hok hbs hib
    cases ok with
    | false =>
      have hb0 : bs = [] := by rw [HBS.out, graphReach_no HOK.out.symm]
      subst hb0
      go_wp2_with fail
      refine (HIM.out _ G1.out).mono ?_
      rintro e w2 ⟨A2, c2, rfl, o2, b2⟩
      have B2 := mkHid (below_then B1.out b2)
      have G2 := mkHid (G1.out.below b2)
      clear o2 b2
      go_wp2_with fail
      refine (HSP.out _ G2.out).mono ?_
      rintro e w3 ⟨A3, c3, rfl, o3, b3⟩
      have B3 := mkHid (below_then B2.out b3)
      clear o3 b3
      go_wp2_with fail
      refine (alive_any _).mono ?_
      rintro e w9 ⟨rfl, rfl⟩
      go_wp2_with fail
      go_ret
      exact ⟨rfl, B3.out⟩
    | true =>
      obtain ⟨hval, ⟨ha3, ha4⟩, hb3, hb4⟩ := reachOk_parts HOK.out.symm
      rw [HGL.out] at ha4 hb4
      have HVAL := mkHid hval
      obtain ⟨src, rfl⟩ := Int.eq_ofNat_of_zero_le ha3
      have hsn : src < (graph rs).length := by rw [HGL.out]; omega
      obtain ⟨al, hal⟩ : ∃ al, al = graphReach (graph rs) src (-1) := ⟨_, rfl⟩
      have hok1 : reachOk (graph rs) src (-1) = true := by
        unfold reachOk
        rw [hval, inB_of (show (0 : Int) ≤ src by omega) (show (src : Int) ≤ ((graph rs).length : Int) - 1 by omega), inB_of (show (-1 : Int) ≤ -1 by omega) (show (-1 : Int) ≤ ((graph rs).length : Int) - 1 by omega)]; rfl
      rw [← hal] at HIM1
      have hbn : bs.length = n := by rw [HBS.out, graphReach_yes HOK.out.symm, reachB_length hval (by omega), HGL.out]
      have han : al.length = n := by rw [hal, graphReach_yes hok1, reachB_length hval (by omega), HGL.out]
      have hgd : ∀ v (h : v < bs.length), bs[v] = true → ReachW (graph rs) src b v := fun v h e => by
        unfold ReachW
        rw [← graphReach_yes HOK.out.symm, ← HBS.out, List.getD, List.getElem?_eq_getElem h, Option.getD_some, e]
      have F1 := mkHid (show ∀ v (h : v < bs.length) (h2 : v < al.length), bs[v] = true → ((v : Int) == b) = false ∧ al[v] = true from fun v h h2 e => by
        have h3 := reachW_not hval hsn (hgd v h e)
        refine ⟨by simpa using h3.1, ?_⟩
        have h4 := h3.2
        unfold Reached at h4
        rw [← graphReach_yes hok1, ← hal, List.getD, List.getElem?_eq_getElem h2, Option.getD_some] at h4
        exact h4)
      have F2 := mkHid (show ∀ v (h : v < bs.length) (h2 : v < rs.length), bs[v] = true → ∀ x ∈ rs[v].zs, (x != b) = true → 0 ≤ x ∧ x < n ∧ ∃ h3 : x.toNat < bs.length, bs[x.toNat] = true from fun v h h2 e x hx hne => by
        have hvl : v < (graph rs).length := by rw [HGL.out]; omega
        have hx' : x ∈ (graph rs)[v] := by simpa using hx
        have h5 := (graph_nodes hval).2 v hvl x hx'
        rw [HGL.out] at h5
        have h3 : x.toNat < bs.length := by omega
        refine ⟨h5.1, h5.2, h3, ?_⟩
        have h4 := reachW_next hval hsn (hgd v h e) hvl hx' (by simpa using hne)
        unfold ReachW at h4
        rw [← graphReach_yes HOK.out.symm, ← HBS.out, List.getD, List.getElem?_eq_getElem h3, Option.getD_some] at h4
        exact h4)
      have hsb : src < bs.length := by omega
      have F3 := mkHid (show bs[src] = ((src : Int) != b) from by
        have h4 := reachW_self (wo := b) hval hsn
        rw [← graphReach_yes HOK.out.symm, ← HBS.out, List.getD, List.getElem?_eq_getElem hsb, Option.getD_some] at h4
        exact h4)
      have FR := mkHid (show ∀ v (h : v < rs.length), ∀ x ∈ rs[v].zs, 0 ≤ x ∧ x < n from fun v h x hx => by
        have hvl : v < (graph rs).length := by rw [HGL.out]; have := HN.out; omega
        have h5 := (graph_nodes hval).2 v hvl x (by simpa using hx)
        rw [HGL.out] at h5
        exact h5)
      clear hgd hval hok1 hal
      have HBN := mkHid hbn
      have HAN := mkHid han
      clear hbn han
      go_wp2_with fail
      refine (HIM.out _ G1.out).mono ?_
      rintro e w2 ⟨A2, c2, rfl, o2, b2⟩
      have B2 := mkHid (below_then B1.out b2)
      have G2 := mkHid (G1.out.below b2)
      have S2 := mkHid (Sl.of_own o2)
      rw [HBN.out]
      clear o2 b2
      go_wp2_with fail
      refine (HSP.out _ G2.out).mono ?_
      rintro e w3 ⟨A3, c3, rfl, o3, b3⟩
      have B3 := mkHid (below_then B2.out b3)
      have G3 := mkHid (G2.out.below b3)
      have S23 := mkHid (S2.out.below b3)
      have S3 := mkHid (Sl.of_own o3)
      rw [HBN.out]
      clear o3 b3
      have hn0 : ((n : Int) == 0) = false := by rw [beq_eq_false_iff_ne]; omega
      go_wp2_with fail
      refine (HIM1.out _ G3.out).mono ?_
      rintro e w4 ⟨A4, c4, rfl, o4, b4⟩
      have B4 := mkHid (below_then B3.out b4)
      have G4 := mkHid (G3.out.below b4)
      have S24 := mkHid (S23.out.below b4)
      have S34 := mkHid (S3.out.below b4)
      have S4 := mkHid (Sl.of_own o4)
      rw [HAN.out]
      clear o4 b4 hn0 HIM HSP HIM1
      go_wp2_with fail
      go_loopw [9] (fun i wr => ∃ k : Nat, k ≤ n ∧ i = .int .i64 k ∧ ∃ q, wr = w4.drewN q) (fun i _ => n - (intOf i).toNat)
      case atStart => exact ⟨0, by omega, rfl, 0, rfl⟩
      case round =>
        obtain ⟨k, hk, rfl, q, rfl⟩ := hrel
        by_cases hlt : k < n
        · have hkb : k < bs.length := by rw [HBN.out]; exact hlt
          have hka : k < al.length := by rw [HAN.out]; exact hlt
          have hkr : k < rs.length := by have := HN.out; omega
          obtain ⟨ba, oa, rfl, hca⟩ := S24.out.at_ (k := k) (by simpa using hkb)
          obtain ⟨bb, ob, rfl, hcb⟩ := S34.out.at_ (k := k) (by simpa using hkb)
          obtain ⟨bc, oc, rfl, hcc⟩ := S4.out.at_ (k := k) (by simpa using hka)
          have h1 := hca k _ (bools_at hkb)
          have h2 := hcb k _ (bools_at hkb)
          have h3 := hcc k _ (bools_at hka)
          have hxall := mkHid (fun j (hj : j < bs.length) => hca j _ (bools_at hj))
          obtain ⟨bd, od, rfl, r1, r2, r3, r4⟩ := G4.out.at_ hkr
          have f1 := F1.out k hkb hka
          have f2 := F2.out k hkb hkr
          have fr := FR.out k hkr
          obtain ⟨v, hv⟩ : ∃ v, v = bs[k] := ⟨_, rfl⟩
          obtain ⟨u, hu⟩ : ∃ u, u = al[k] := ⟨_, rfl⟩
          rw [← hv] at h1 h2 f1 f2
          rw [← hu] at h3 f1
          generalize rs[k] = rw_ at *
          obtain ⟨ra, rc, zs⟩ := rw_
          simp only at r1 r2 r3 r4 f2 fr
          have HZR := mkHid r2
          have HF2 := mkHid f2
          have HFR := mkHid fr
          clear hca hcb hcc hv hu r2 f2 fr
          cases v with
          | false =>
            clear f1 h3
            go_wp2_with fail
            go_quiet (fail)
            go_wp2_with fail
            go_loopw [10] (fun i wr => ∃ j : Nat, j ≤ zs.length ∧ i = .int .i64 j ∧ ∃ q, wr = w4.drewN q) (fun i _ => zs.length - (intOf i).toNat)
            case atStart => exact ⟨0, by omega, rfl, _, by first | rfl | exact World.drewN_drewN _ _ _⟩
            case round =>
              obtain ⟨j, hj, rfl, q, rfl⟩ := hrel
              by_cases hjl : j < zs.length
              · go_wp2_with fail
                go_roundw
                case rel => exact ⟨j + 1, by omega, by go_num, _, by first | rfl | exact World.drewN_drewN _ _ _⟩
                case measure => simp [intOf] <;> omega
              · go_wp2_with fail
                go_roundw
                case rel => exact ⟨k + 1, by omega, by go_num, _, by first | rfl | exact World.drewN_drewN _ _ _⟩
                case measure => simp [intOf] <;> omega
          | true =>
            obtain ⟨f0, rfl⟩ := f1 rfl
            have hd1 : decide ((n : Int) ≤ (k : Int)) = false := by simp; omega
            go_wp2_with fail
            go_quiet (fail)
            clear f0 h3 hd1
            go_wp2_with fail
            go_loopw [10] (fun i wr => ∃ j : Nat, j ≤ zs.length ∧ i = .int .i64 j ∧ ∃ q, wr = w4.drewN q) (fun i _ => zs.length - (intOf i).toNat)
            case atStart => exact ⟨0, by omega, rfl, _, by first | rfl | exact World.drewN_drewN _ _ _⟩
            case round =>
              obtain ⟨j, hj, rfl, q, rfl⟩ := hrel
              by_cases hjl : j < zs.length
              · obtain ⟨be, oe, rfl, hce⟩ := HZR.out.at_ (k := j) (by simpa using hjl)
                have h5 := hce j _ (ints_at hjl)
                have hx1 := HF2.out trivial _ (List.getElem_mem hjl)
                have hx2 := HFR.out _ (List.getElem_mem hjl)
                generalize zs[j] = x at *
                clear hce
                cases hxb : (x != b) with
                | false =>
                  clear hx1
                  go_wp2_with fail
                  go_roundw
                  case rel => exact ⟨j + 1, by omega, by go_num, _, by first | rfl | exact World.drewN_drewN _ _ _⟩
                  case measure => simp [intOf] <;> omega
                | true =>
                  obtain ⟨x0, x1, h6, h7⟩ := hx1 hxb
                  have h8 := hxall.out _ h6
                  rw [h7] at h8
                  have h9 : (x.toNat : Int) = x := by omega
                  obtain ⟨xn, rfl⟩ := Int.eq_ofNat_of_zero_le x0
                  simp only [Int.toNat_natCast] at h8 h6
                  clear h7 h9 hx2
                  go_wp2_with fail
                  go_roundw
                  case rel => exact ⟨j + 1, by omega, by go_num, _, by first | rfl | exact World.drewN_drewN _ _ _⟩
                  case measure => simp [intOf] <;> omega
              · go_wp2_with fail
                go_roundw
                case rel => exact ⟨k + 1, by omega, by go_num, _, by first | rfl | exact World.drewN_drewN _ _ _⟩
                case measure => simp [intOf] <;> omega
        · obtain ⟨ba, oa, rfl, hca⟩ := S24.out.at_ (k := src) (by simpa using hsb)
          have h1 := hca src _ (bools_at hsb)
          have f3 := F3.out
          generalize bs[src] = v at *
          have HBF := mkHid (below_drewN B4.out q)
          clear hca hsn
          have HF3 := mkHid f3
          clear f3
          go_wp2_with fail
          go_ret
          exact ⟨ret_bool (by rw [HF3.out]; simp), HBF.out⟩
namespace fnGraphReach
set_option maxRecDepth 100000 in
theorem lifted (os : Os) (started : os.Started) (H : Type) (enc : TypeId × Value → H) :
    ReturnsInHanded {} Try.checked os 8 .any (Rows.fnGraphReachSpec.pre6 enc Try.prog Try.f8 Rows.fnGraphReachRow.domain false) (Rows.fnGraphReachSpec.post enc Try.prog Try.f8 false true false false) := by
  refine returnsInHanded_of_change (C := Try.checked) own started (by kernel_rfl) Try.func8
    (ChangeSpec.witness6 (enc := enc) (C := Try.checked) false ⟨#[], #[.slice none 0 0], []⟩ 8 (by kernel_rfl) (by kernel_rfl) (by kernel_rfl) (by kernel_rfl)) ?_
  intro W base args ds gs before hval0 hW hcnd _
  have hval : ∀ (j : Nat) t v, Try.f8.params[j]? = some t → args[j]? = some v → Value.okWide Try.prog W .any base t v := hval0
  have hW' := hW
  obtain ⟨p, q, hA0, hV, rfl, hfz, hnd⟩ := hW
  have hA : DataW.TrodAll enc Try.prog W 0 (fun _ => true) true Try.f8.params.toList args.toList ds p := hA0
  have hAk : DataW.TrodAll enc Try.prog W 0 (fun _ => true) true Try.f8.params.toList args.toList ds p := hA0
  rw [Try.params8] at hA hval
  obtain ⟨v0, vs0, d0, ds0, p0, q0, hargs, rfl, rfl, h0, r0⟩ := trodAll_cons hA
  obtain ⟨rfl, rfl, rfl⟩ := trodAll_nil r0
  obtain rfl : args = #[v0] := by cases args; simp_all
  obtain ⟨rfl, rfl⟩ := trodVars_none hV
  obtain ⟨Azs, czs, zs, rfl, nzs, kzs, szs, wzs⟩ := open_int_slice Try.underlying27 Try.underlying5 (by kernel_rfl) (hval 0 27 v0 rfl rfl) h0
  have wzs : ∀ z ∈ zs, 0 ≤ z ∧ z ≤ 255 := fun z hz => wf_u8_bounds (wzs z hz)
  clear hA0 hval0
  refine (graphReach_walk Azs czs zs W nzs kzs szs wzs).mono fun e W' ⟨he, hb⟩ => ?_
  subst he
  refine ⟨_, rfl, post_true laidOut (fun t ht => ?_) (by kernel_rfl) Try.underlying4 rfl rfl hW' hAk hb⟩
  rw [Try.params8] at ht
  simp only [List.mem_cons, List.not_mem_nil, or_false] at ht
  first | (rcases ht with rfl <;> exact ⟨by kernel_rfl, of_decide_eq_true (by kernel_rfl)⟩) | (obtain rfl := ht; exact ⟨by kernel_rfl, of_decide_eq_true (by kernel_rfl)⟩)
/-- The statement. -/
theorem proved : Rows.FnGraphReachSaid :=
  OpenClaim.holds_of_wide 8 Try.f8 rfl rfl rfl rfl rfl rfl rfl ⟨rfl, rfl, rfl, rfl, rfl⟩ rfl rfl rfl rfl rfl (by kernel_rfl) Try.func8 (by kernel_rfl)
    (of_decide_eq_true (by kernel_rfl)) (by unfold Func.isWrapper; first | (rw [if_pos (by decide +kernel)]; kernel_rfl) | (rw [if_neg (by decide +kernel)]; exact ⟨rfl, rfl⟩))
    (fun os started H enc _ => lifted os started H enc)
end fnGraphReach
#print axioms fnGraphReach.proved
end Go.Proofs.Ytabpcbikbhbcaaa
