/-
  Walks: the reference's Fold.
  Walks: the reference's Fold, its code.
  Rows of wide elements, read; entries compared.
-/
import Derived.Test.YtidmjepfpjfkoaaDoorMl
import Derived.Test.YtidmjepfpjfkoaaDoorMa
import Derived.Test.YtidmjepfpjfkoaaDoorMk
import Derived.Test.YtidmjepfpjfkoaaDoorMg
import Derived.Test.YtidmjepfpjfkoaaDoorMd
import Derived.Deep.DeepCutAuto
namespace Go.Proofs.YtidmjepfpjfkoaaDoor
open Go Go.RowKit Go.Proofs.YtidmjepfpjfkoaaDoorW.PrintWords Go.Proofs.YtidmjepfpjfkoaaDoorW.PrintLast Go.Proofs.YtidmjepfpjfkoaaDoorW.PrintMore
set_option maxHeartbeats 4000000
set_option maxRecDepth 20000
set_option linter.unusedVariables false
set_option linter.unusedSimpArgs false

theorem own_of_R' {w : World} {base : Nat} {e : Nat} {ok : Nat → Prop} {v : Value} {ps : List (List UInt8)} (h : Kd.string.R e w base ok v (txs ps)) : w.ownsRow base e 1 v ps.length (pv ps) := by
  have ho := Kd.own_of_R h
  rw [txs_length] at ho
  have he : encs Value.string (txs ps) = pv ps := by
    unfold txs pv
    unfold encs
    rw [List.map_map]
    rfl
  rw [he] at ho
  exact ho
theorem refCutO (s : ByteArray) (hs : s.size ≤ 1000000) (w : World) :
    Calls Tryd.prog 76 #[.string s] w fun e w' => ∃ v, e = .returned v ∧ w'.ownsRow w.heap.size 9 1 v (Pm.cut s.data.toList).length (pv (Pm.cut s.data.toList)) ∧ Below w.heap.size w w' :=
  (PPathTells.shoalsyncref03_Cut.calls (s.size + 2) s _ w (refCut_f s hs _ (by omega))).mono fun e w' ⟨v, h1, h2, h3⟩ => ⟨v, h1, own_of_R' h2, h3⟩
/-- behind m keys: the paths -/
structure RI (w : World) (m : Nat) (T : List Km.By) (ps : List Km.By) (v : Value) (W : World) : Prop where
  own : W.ownsRow w.heap.size 9 1 v ps.length (pv ps)
  len : ps.length ≤ 6 * m
  mem : ∀ x, x ∈ ps ↔ Km.InF T x
  below : Below w.heap.size w W
theorem RI.call {w : World} {m : Nat} {T ps : List Km.By} {v : Value} {W W' : World} (h : RI w m T ps v W) (hb : Below W.heap.size W W') : RI w m T ps v W' :=
  ⟨own_below h.own hb, h.len, h.mem, h.below.trans (hb.mono h.below.size)⟩
theorem RI.skip {w : World} {m : Nat} {T T' ps : List Km.By} {v : Value} {W : World} {k : Km.By} (h : RI w m T ps v W) (hk : Km.parE k ≠ 0) (hT : T ++ [k] = T') : RI w (m + 1) T' ps v W :=
  ⟨h.own, by have := h.len; omega, fun x => by rw [h.mem, ← hT, InF_skip _ _ hk], h.below⟩
/-- behind j paths of the next key -/
structure RJ (w : World) (ps : List Km.By) (S : Km.By) (j g : Nat) (w4 : World) (v : Value) (W : World) : Prop where
  own : W.ownsRow w.heap.size 9 1 v (ps.length + j) (pv (ps ++ Km.ups S j))
  below : Below w.heap.size w W
  keep : W.heap[g]? = w4.heap[g]?
  far : v.ownBlock ≠ some g
  lt : g < W.heap.size
theorem RJ.call {w : World} {ps : List Km.By} {S : Km.By} {j g : Nat} {w4 : World} {v : Value} {W W' : World} (h : RJ w ps S j g w4 v W) (hb : Below W.heap.size W W') : RJ w ps S j g w4 v W' :=
  ⟨own_below h.own hb, h.below.trans (hb.mono h.below.size), (hb.block _ h.lt).trans h.keep, h.far, Nat.lt_of_lt_of_le h.lt hb.size⟩
theorem RJ.next {w : World} {ps : List Km.By} {S : Km.By} {j g : Nat} {w4 : World} {v v' : Value} {W W' : World} (h : RJ w ps S j g w4 v W) (ha : App w.heap.size v v' W W')
    (ho : W'.ownsRow w.heap.size 9 1 v' (ps.length + j + 1) (pv (ps ++ Km.ups S j) ++ [Value.string (tk (Pm.joinP ((Pm.cut S).take (j + 1))))])) : RJ w ps S (j + 1) g w4 v' W' := by
  obtain ⟨f1, f2⟩ := ha.far h.lt h.far
  refine ⟨?_, h.below.trans ha.below, f2.trans h.keep, f1, Nat.lt_of_lt_of_le h.lt ha.below.size⟩
  rw [Km.ups_next, ← List.append_assoc, ← Nat.add_assoc]
  have : pv (ps ++ Km.ups S j ++ [Pm.joinP ((Pm.cut S).take (j + 1))]) = pv (ps ++ Km.ups S j) ++ [Value.string (tk (Pm.joinP ((Pm.cut S).take (j + 1))))] := by
    unfold pv
    rw [List.map_append]
    rfl
  rw [this]
  exact ho
theorem RJ.done {w : World} {m : Nat} {T T' ps : List Km.By} {k : Km.By} {g : Nat} {w4 : World} {v v0 : Value} {W W0 : World} (h0 : RI w m T ps v0 W0) (hk : Km.parE k = 0) (hT : T ++ [k] = T') (h : RJ w ps (Km.parS k) (Pm.cut (Km.parS k)).length g w4 v W) :
    RI w (m + 1) T' (ps ++ Km.ups (Km.parS k) (Pm.cut (Km.parS k)).length) v W := by
  have hr := Km.par_right hk
  have hc := (Km.right_cut hr).1
  have hl := h0.len
  refine ⟨?_, ?_, fun x => ?_, h.below⟩
  · rw [List.length_append, Km.ups_length]; exact h.own
  · rw [List.length_append, Km.ups_length]; omega
  · rw [List.mem_append, h0.mem, Km.mem_ups hr, ← hT, InF_put _ _ hk]
end Go.Proofs.YtidmjepfpjfkoaaDoor

namespace Go.Proofs.YtidmjepfpjfkoaaDoor
open Go Go.RowKit
set_option maxHeartbeats 4000000
set_option maxRecDepth 20000
set_option linter.unusedVariables false
set_option linter.unusedSimpArgs false

theorem refFold (ks : List Km.By) (hks : ∀ k ∈ ks, k.length ≤ 1000) (hn : ks.length ≤ 100) (A : Option Addr) (c : Nat) (w : World)
    (hrd : RdS (.slice A ks.length c) ks.length (pv ks) w.heap.size w) :
    Calls Tryd.prog 38 #[.slice A ks.length c] w fun e w' => ∃ v, e = .returned v ∧ ∃ xs, Km.FS ks xs ∧ w'.ownsRow w.heap.size 79 4 v xs.length (entsV ks xs) ∧ Below w.heap.size w w' := by
  obtain ⟨i0, hi0, hz0, hz1, hz2⟩ := info_parts info_str
  obtain ⟨i9, hi9, hy0, hy1, hy2⟩ := info_parts info79
  have hpar := fun (k : Km.By) (hk : k.length ≤ 1000) (w2 : World) => refParse (tk k) (by rw [tk_size]; omega) w2
  have hcut := fun (p : Km.By) (hp : p.length ≤ 64) (w2 : World) => refCutO (tk p) (by rw [tk_size]; omega) w2
  have hup := fun (i : Nat) (h : i < ks.length) => List.take_append_getElem h
  obtain ⟨n, hnn⟩ : ∃ n, n = ks.length := ⟨_, rfl⟩
  rw [← hnn] at hrd hn ⊢
  have Hhpar := Lib.hid hpar
  have Hhcut := Lib.hid hcut
  have Hhrd := Lib.hid hrd
  have Hhks := Lib.hid hks
  have Hhnn := Lib.hid hnn
  have Hhup := Lib.hid hup
  clear hpar hcut hrd hks hnn hup
  go_enter Tryd.func38, Tryd.ntmps38
  go_wp2_with fail
  go_loopw [3, 4] (fun v iv wr => ∃ (i : Nat) (ps : List Km.By) (V : Value), V = v ∧ i ≤ n ∧ iv = .int .i64 (i : Int) ∧ Hid (RI w i (ks.take i) ps V wr)) (fun _ iv _ => n - (intOf iv).toNat)
  case atStart => exact ⟨0, [], _, rfl, by omega, rfl, ⟨World.ownsRow_nil _ _ _ _, by simp, fun x => by simp [Km.InF], Below.refl _ _⟩⟩
  case round =>
    obtain ⟨i, ps, V, rfl, hi, rfl, HR⟩ := hrel
    have hbi : (0 : Int) ≤ i := by omega
    by_cases hin : i < n
    · obtain ⟨b, off, hA, hcn, hbb, hcell⟩ := Hhrd.out.at_ hin
      have hil : i < ks.length := by rw [← Hhnn.out]; exact hin
      obtain ⟨k, hk⟩ : ∃ k, k = ks[i] := ⟨_, rfl⟩
      have hT := Hhup.out i hil
      rw [← hk] at hT
      have hkl := Hhks.out k (by rw [hk]; exact List.getElem_mem hil)
      have hx := hcell i _ (pv_get ks i hil)
      rw [← hk] at hx
      replace hx := (HR.out.below.cell (p := ⟨b, off + i, none⟩) hbb).trans hx
      have hP := Hhpar.out k hkl
      rw [show (tk k).data.toList = k from rfl] at hP
      have hEr := fun h : Km.parE k = 0 => Km.par_right h
      have hbn : (i : Int) < n := by omega
      obtain ⟨E, hE⟩ : ∃ E, E = Km.parE k := ⟨_, rfl⟩
      obtain ⟨S, hS⟩ : ∃ S, S = Km.parS k := ⟨_, rfl⟩
      obtain ⟨D, hD⟩ : ∃ D, D = Km.parD k := ⟨_, rfl⟩
      rw [← hE] at hEr
      rw [← hS] at hEr
      rw [← hE, ← hS, ← hD] at hP
      rw [show (⟨k.toArray⟩ : ByteArray) = tk k from rfl] at hx
      obtain ⟨X, hX⟩ : ∃ X, X = tk k := ⟨_, rfl⟩
      rw [← hX] at hP hx
      subst hA
      have HhP := Lib.hid hP
      have HhEr := Lib.hid hEr
      have HhE := Lib.hid hE
      have HhS := Lib.hid hS
      have HhD := Lib.hid hD
      have HhT := Lib.hid hT
      have HhX := Lib.hid hX
      clear hP hEr hE hS hD hT hX
      clear hcell hkl hk
      go_wp2_with fail
      refine (HhP.out _).mono ?_
      rintro e w3 ⟨rfl, hb3⟩
      have HR3 := Lib.hid (HR.out.call hb3)
      by_cases hE0 : E = 0
      · have hEz : ((E : Int) != 0) = false := by rw [hE0]; rfl
        have hEz2 : ((E : Int) == 0) = true := by rw [hE0]; rfl
        have hk0 : Km.parE k = 0 := by rw [← HhE.out]; exact hE0
        have hr0 := HhEr.out hE0
        have hS64 := right_64 hr0
        have hC := Hhcut.out S hS64
        rw [show (tk S).data.toList = S from rfl] at hC
        have hbb3 := (Below.refl w3.heap.size w3).alloc (Nat.le_refl _) (.cells #[.string (tk S), .bool D] 68)
        have HR4 := Lib.hid (HR3.out.call hbb3)
        have kbox := heap_alloc_new w3 (.cells #[.string (tk S), .bool D] 68)
        have hc5 := cell_row kbox (i := 0) (v := .string (tk S)) rfl
        obtain ⟨L, hL⟩ : ∃ L, L = (Pm.cut S).length := ⟨_, rfl⟩
        have hL6 : L ≤ 6 := by rw [hL]; exact (Km.right_cut hr0).1
        have hL1 : 0 < L := by rw [hL]; exact List.length_pos_iff.2 (Pm.cut_ne S)
        have Hhk0 := Lib.hid hk0
        have Hhr0 := Lib.hid hr0
        have HhC := Lib.hid hC
        have HhL := Lib.hid hL
        clear hk0 hr0 hC hL
        clear hE0 hb3 HR3 hbb3 kbox
        go_upto_region 7 with fail
        generalize w3.alloc (.cells #[.string (tk S), .bool D] 68) = w4 at *
        go_wp2_with fail
        refine (HhC.out _).mono ?_
        rintro e w5 ⟨v7, rfl, ho7, hb5⟩
        have HR5 := Lib.hid (HR4.out.call hb5)
        have hlt7 := ho7.lt
        have hr7 := owns_rdS ho7
        rw [← HhL.out] at ho7 hr7
        have hlr := HR4.out.own.lt
        obtain ⟨g, c7, rfl, hg4, hg5⟩ : ∃ g c7, v7 = .slice (some ⟨g, 0, none⟩) L c7 ∧ w4.heap.size ≤ g ∧ g < w5.heap.size := by
          rcases ho7.2 with ⟨_, h⟩ | ⟨g, cap, cur, h, hg, hh, _⟩
          · omega
          · exact ⟨g, cap, h, hg, lt_of_block hh⟩
        have hfar : V.ownBlock ≠ some g := fun e => by
          have := (hlr g e).2
          omega
        have HJ : Hid (RJ w ps S 0 g w5 V w5) := ⟨by simpa [Km.ups_zero] using HR5.out.own, HR5.out.below, rfl, hfar, hg5⟩
        have hcap : L ≤ c7 := rd_cap hr7
        have Hhr7 := Lib.hid hr7
        clear hr7
        clear hlt7 ho7 hlr hfar hb5 hc5 HR4
        go_wp2_with fail
        go_loopw [3, 8] (fun v kv wr => ∃ (j : Nat) (V : Value), V = v ∧ j ≤ L ∧ kv = .int .i64 ((j + 1 : Nat) : Int) ∧ Hid (RJ w ps S j g w5 V wr)) (fun _ kv _ => L + 1 - (intOf kv).toNat)
        case atStart => exact ⟨0, V, rfl, by omega, rfl, HJ⟩
        case round =>
          obtain ⟨j, U, rfl, hj, rfl, HK⟩ := hrel
          have hbj : (0 : Int) ≤ j := by omega
          have hpush : ((j + 1 : Nat) : Int) = (j : Int) + 1 := by omega
          by_cases hjn : j < L
          · have hbl : (j : Int) + 1 ≤ L := by omega
            have hr0 := Hhr0.out
            have hrt := rd_take (Hhr7.out.block HK.out.keep HK.out.lt) (k := j + 1) (by omega)
            have hlt : ((Pm.cut S).take (j + 1)).length = j + 1 := by rw [List.length_take]; have := HhL.out; omega
            have hjS : (Pm.joinS ((Pm.cut S).take (j + 1))).length ≤ 20000 := by
              have h1 := (Km.joinP_take hr0 (k := j + 1) (by omega) (by rw [← HhL.out]; omega)).2
              have h2 := right_64 (Km.inC_right _ S _ (Nat.lt_succ_self _) hr0 h1)
              omega
            have hJ := refJoin ((Pm.cut S).take (j + 1)) hjS (by omega) (some ⟨g, 0, none⟩) c7 wr (by rw [hlt]; exact hrt)
            rw [hlt] at hJ
            obtain ⟨y, hy⟩ : ∃ y, y = tk (Pm.joinP ((Pm.cut S).take (j + 1))) := ⟨_, rfl⟩
            obtain ⟨ye, hye⟩ : ∃ ye, ye = Pm.joinE ((Pm.cut S).take (j + 1)) := ⟨_, rfl⟩
            rw [show (⟨(Pm.joinP ((Pm.cut S).take (j + 1))).toArray⟩ : ByteArray) = y from hy.symm, ← hye] at hJ
            have HhJ := Lib.hid hJ
            have Hhy := Lib.hid hy
            clear hJ hy
            clear hrt hlt hjS hr0 hye
            rw [hpush]
            go_wp2_with fail
            refine HhJ.out.mono ?_
            rintro e w6 ⟨rfl, hb6⟩
            have HK6 := Lib.hid (HK.out.call hb6)
            have hps6 := HR5.out.len
            have hbs6 := HK6.out.below.size
            clear hb6 HK
            go_wp2_with (at_builtin; refine kl_append1a rfl _ _ 56 rfl w.heap.size 9 i0 (.string ⟨#[]⟩) 1 16 Tryd.underlying56 hi0 hz0 hz1 hz2 rfl (by decide) _ (ps.length + j) _ rfl HK6.out.own 1 #[.string y] rfl rfl (by simp [Value.oneCell']) (by omega) (by omega) hbs6 ?_; intro v' w' hown' happ)
            rw [Hhy.out] at hown'
            have HK7 := Lib.hid (HK6.out.next happ hown')
            clear hown' happ HK6
            go_wp2_with fail
            go_roundw
            case rel => exact ⟨j + 1, v', rfl, by omega, by go_num, HK7⟩
            case measure => simp [intOf]; omega
          · obtain rfl : j = L := by omega
            have hbl : ¬ (j : Int) + 1 ≤ j := by omega
            have hk0 := Hhk0.out
            have hT := HhT.out
            have HR8 : Hid (RI w (i + 1) (ks.take (i + 1)) (ps ++ Km.ups S j) U wr) := by
              have h := HK.out
              rw [HhL.out, HhS.out] at h ⊢
              exact RJ.done HR5.out hk0 hT h
            have Hhk0 := Lib.hid hk0
            have HhT := Lib.hid hT
            clear hk0 hT
            rw [hpush]
            go_wp2_with fail
            exact ⟨⟨i + 1, _, U, rfl, by omega, by go_num, HR8⟩, by simp [intOf]; omega⟩
      · have hEz : ((E : Int) != 0) = true := by rw [bne_iff_ne]; omega
        have hEz2 : ((E : Int) == 0) = false := by rw [beq_eq_false_iff_ne]; omega
        have hkE : Km.parE k ≠ 0 := by rw [← HhE.out]; exact hE0
        have HR6 := Lib.hid (((HR3.out.call ((Below.refl w3.heap.size w3).alloc (Nat.le_refl _) (.cells #[.string (tk S), .bool D] 68)))).skip hkE HhT.out)
        clear hkE hE0
        go_wp2_with fail
        go_roundw
        case rel => exact ⟨i + 1, ps, V, rfl, by omega, by go_num, HR6⟩
        case measure => simp [intOf]; omega
    · obtain rfl : i = n := by omega
      have hbn : ¬ (i : Int) < i := by omega
      have hT : ks.take i = ks := by rw [Hhnn.out, List.take_length]
      have hR := HR.out
      rw [hT] at hR
      have hr2 := owns_rdS hR.own
      obtain ⟨A1, c1, rfl⟩ := hr2.slice
      have hl6 := hR.len
      have hps : ∀ x ∈ ps, x.length ≤ 10000 := fun x hx => by
        have := right_64 (((hR.mem x).1 hx).right)
        omega
      have hsort := refSort ps hps (by omega) A1 c1 wr hr2
      obtain ⟨z, hz⟩ : ∃ z, z = ps.length := ⟨_, rfl⟩
      rw [← hz] at hsort hl6 ⊢
      have hz6 := hl6
      have Hhsort := Lib.hid hsort
      have Hhz := Lib.hid hz
      have HhR := Lib.hid hR
      have HhT := Lib.hid hT
      have Hhz6 := Lib.hid hz6
      clear hsort hz hR hT hz6
      clear hr2 hps hl6 HR
      go_wp2_with fail
      refine Hhsort.out.mono ?_
      rintro e w2 ⟨v2, rfl, xs, hv2, hb2, hI, hxl⟩
      have hFS := Km.FS.of hI HhR.out.mem
      obtain ⟨A2, c2, rfl⟩ := hv2.slice
      obtain ⟨m2, hm2⟩ : ∃ m2, m2 = xs.length := ⟨_, rfl⟩
      rw [← hm2] at hv2 hxl ⊢
      have hb3 := HhR.out.below.trans (hb2.mono HhR.out.below.size)
      have hws := hb3.size
      have HhFS := Lib.hid hFS
      have Hhv2 := Lib.hid hv2
      have Hhm2 := Lib.hid hm2
      have Hhb3 := Lib.hid hb3
      clear hFS hv2 hm2 hb3
      clear hI hb2 hbn
      go_wp2_with fail
      go_loopw [11, 12] (fun vo iv wr => ∃ (j : Nat) (V : Value), V = vo ∧ j ≤ m2 ∧ iv = .int .i64 (j : Int) ∧ Hid (Below w2.heap.size w2 wr) ∧ Hid (wr.ownsRow w2.heap.size 79 4 V j (entsV ks (xs.take j)))) (fun _ iv _ => m2 - (intOf iv).toNat)
      case atStart => exact ⟨0, _, rfl, by omega, rfl, Below.refl _ _, World.ownsRow_nil _ _ _ _⟩
      case round =>
        obtain ⟨j, V, rfl, hj, rfl, HB, HO⟩ := hrel
        generalize wr = wo at *
        have hbj : (0 : Int) ≤ j := by omega
        by_cases hjn : j < m2
        · obtain ⟨b, off, hA2, hcn, hbb, hcell⟩ := Hhv2.out.at_ hjn
          have hjl : j < xs.length := by rw [← Hhm2.out]; exact hjn
          obtain ⟨x, hx⟩ : ∃ x, x = xs[j] := ⟨_, rfl⟩
          have hxc := (HB.out.cell (p := ⟨b, off + j, none⟩) hbb).trans (hcell j _ (pv_get xs j hjl))
          rw [← hx] at hxc
          obtain ⟨X, hX⟩ : ∃ X, X = tk x := ⟨_, rfl⟩
          rw [show (⟨x.toArray⟩ : ByteArray) = X from hX.symm] at hxc
          have hbn : (j : Int) < m2 := by omega
          subst hA2
          have hxr : Pm.right x = 0 := ((HhFS.out.mem x).1 (by rw [hx]; exact List.getElem_mem hjl)).right
          have hx64 := right_64 hxr
          have Hhx := Lib.hid hx
          have HhX := Lib.hid hX
          have Hhxr := Lib.hid hxr
          clear hx hX hxr
          clear hcell
          go_upto_region 19 with (first | refine kl_alloc rfl 79 rfl #[.string ⟨#[]⟩, .bool false, .bool false, .bool false] i9 hi9 _ hy0 rfl ?_ | refine kl_store_new rfl 79 _ _ rfl #[.string X, .bool false, .bool false, .bool false] rfl rfl _ _ n79s rfl (one4 rfl rfl rfl rfl) ?_)
          have k5 := (Kn.start wo).alloc (.cells #[.string X, .bool false, .bool false, .bool false] 79)
          generalize wo.alloc (.cells #[.string X, .bool false, .bool false, .bool false] 79) = w5 at *
          have HK5 := Lib.hid k5
          have hqo := Lib.hid (Nat.le_refl wo.heap.size)
          clear k5
          obtain ⟨qb, hqb⟩ : ∃ qb, qb = wo.heap.size := ⟨_, rfl⟩
          rw [← hqb] at HK5 ⊢
          have Hqb := Lib.hid hqb
          clear hqb hqo
          go_wp2_with fail
          go_loopw [14] (fun kv wq => ∃ t : Nat, t ≤ i ∧ kv = .int .i64 (t : Int) ∧ Hid (Kn qb wo [(qb, .cells #[.string X, .bool (Km.seen (ks.take t) x false), .bool (Km.anyW (ks.take t) x), .bool (Km.seen (ks.take t) x true)] 79)] wq)) (fun kv _ => i - (intOf kv).toNat)
          case atStart => exact ⟨0, by omega, rfl, HK5⟩
          case round =>
            obtain ⟨t, ht, rfl, HK⟩ := hrel
            have hbt : (0 : Int) ≤ t := by omega
            by_cases htn : t < i
            · obtain ⟨b', off', hA', hcn', hbb', hcell'⟩ := Hhrd.out.at_ htn
              have htl : t < ks.length := by rw [← Hhnn.out]; exact htn
              obtain ⟨k, hk⟩ : ∃ k, k = ks[t] := ⟨_, rfl⟩
              have hT := Hhup.out t htl
              rw [← hk] at hT
              have hkl := Hhks.out k (by rw [hk]; exact List.getElem_mem htl)
              have hc1 := hcell' t _ (pv_get ks t htl)
              rw [← hk] at hc1
              have hbw := Hhb3.out.trans ((HB.out.mono hws).trans (HK.out.below.mono (by rw [Hqb.out]; exact Nat.le_trans hws HB.out.size)))
              replace hc1 := (hbw.cell (p := ⟨b', off' + t, none⟩) hbb').trans hc1
              have hP := Hhpar.out k hkl
              rw [show (tk k).data.toList = k from rfl] at hP
              have htI : (t : Int) < i := by omega
              obtain ⟨E, hE⟩ : ∃ E, E = Km.parE k := ⟨_, rfl⟩
              obtain ⟨S, hS⟩ : ∃ S, S = Km.parS k := ⟨_, rfl⟩
              obtain ⟨D, hD⟩ : ∃ D, D = Km.parD k := ⟨_, rfl⟩
              obtain ⟨F, hF⟩ : ∃ F, F = Km.seen (ks.take t) x false := ⟨_, rfl⟩
              obtain ⟨M, hM⟩ : ∃ M, M = Km.seen (ks.take t) x true := ⟨_, rfl⟩
              obtain ⟨N, hN⟩ : ∃ N, N = Km.anyW (ks.take t) x := ⟨_, rfl⟩
              have hF' := Km.seen_next (ks.take t) k x false
              have hM' := Km.seen_next (ks.take t) k x true
              have hN' := Km.anyW_next (ks.take t) k x
              rw [hT, ← hF, ← hE, ← hS, ← hD] at hF'
              rw [hT, ← hM, ← hE, ← hS, ← hD] at hM'
              rw [hT, ← hN, ← hE, ← hS] at hN'
              have hK := HK.out
              rw [← hF, ← hM, ← hN] at hK
              rw [← hE, ← hS, ← hD] at hP
              rw [show (⟨k.toArray⟩ : ByteArray) = tk k from rfl] at hc1
              obtain ⟨Y, hY⟩ : ∃ Y, Y = tk k := ⟨_, rfl⟩
              rw [← hY] at hP hc1
              have hSr : E = 0 → Pm.right S = 0 := fun h => by rw [hS]; exact Km.par_right (by rw [← hE]; exact h)
              subst hA'
              obtain ⟨Z, hZ⟩ : ∃ Z, Z = tk S := ⟨_, rfl⟩
              rw [← hZ] at hP
              have HhP := Lib.hid hP
              have HhF' := Lib.hid hF'
              have HhM' := Lib.hid hM'
              have HhN' := Lib.hid hN'
              have HhK := Lib.hid hK
              have HhSr := Lib.hid hSr
              have HhZ := Lib.hid hZ
              clear hP hF' hM' hN' hK hSr hZ
              clear hcell' hkl hbw hE hS hD hF hM hN hT hk hY HK
              go_wp2_with fail
              refine (HhP.out _).mono ?_
              rintro e w6 ⟨rfl, hb6⟩
              have K6 := Lib.hid (HhK.out.call hb6)
              clear hb6 HhK
              by_cases hE0 : E = 0
              · have hEz : ((E : Int) != 0) = false := by rw [hE0]; rfl
                have hEz2 : ((E : Int) == 0) = true := by rw [hE0]; rfl
                have hSr0 := HhSr.out hE0
                have hS64 := right_64 hSr0
                have hxX := HhX.out
                have e00 : (E == 0) = true := by rw [beq_iff_eq]; exact hE0
                have hF1 : Km.seen (ks.take (t + 1)) x false = (F || (decide (S = x) && !D)) := by
                  rw [HhF'.out, e00, Bool.true_and]
                  cases D <;> simp [Km.beq_dec]
                have hM1 : Km.seen (ks.take (t + 1)) x true = (M || (decide (S = x) && D)) := by
                  rw [HhM'.out, e00, Bool.true_and]
                  cases D <;> simp [Km.beq_dec]
                have hN1 : Km.anyW (ks.take (t + 1)) x = (N || Pm.within S x) := by
                  rw [HhN'.out, e00, Bool.true_and]
                have k7 := (K6.out.alloc (.cells #[.string Z, .bool D] 68)).swap
                have hq8 := K6.out.lt 0 rfl
                have hW := fun w2 => refWithin Z X (by rw [HhZ.out, tk_size]; omega) (by rw [HhX.out, tk_size]; omega) w2
                rw [show Z.data.toList = S by rw [HhZ.out]; rfl, show X.data.toList = x by rw [hxX]; rfl] at hW
                have HhF1 := Lib.hid hF1
                have HhM1 := Lib.hid hM1
                have HhN1 := Lib.hid hN1
                have HhW := Lib.hid hW
                clear hF1 hM1 hN1 hW
                clear e00 HhF' HhM' HhN' hxX
                go_upto_region 24 with fail
                generalize w6.alloc (.cells #[.string Z, .bool D] 68) = w7 at *
                generalize w6.heap.size = p8 at *
                have hcS : w7.cell? ⟨p8, 0, none⟩ = some (.string Z) := cell_row (k7.get 1 rfl) (i := 0) rfl
                have hcD : w7.cell? ⟨p8, 1, none⟩ = some (.bool D) := cell_row (k7.get 1 rfl) (i := 1) rfl
                have hcX : w7.cell? ⟨qb, 0, none⟩ = some (.string X) := cell_row (k7.get 0 rfl) (i := 0) rfl
                have hcF : w7.cell? ⟨qb, 1, none⟩ = some (.bool F) := cell_row (k7.get 0 rfl) (i := 1) rfl
                have K7 := Lib.hid k7
                clear k7 K6
                obtain ⟨q, hq⟩ : ∃ q, q = decide (S = x) := ⟨_, rfl⟩
                have hqq : (Z.toList == X.toList) = q := by
                  rw [HhZ.out, HhX.out, tk_list, tk_list, hq, Km.beq_dec]
                rw [← hq] at HhF1 HhM1
                clear hq
                go_upto_if 86 with fail
                have hne : ∀ x ∈ [(p8, Obj.cells #[Value.string Z, Value.bool D] 68 (0, 0))], x.1 ≠ qb := by
                  intro x hx
                  obtain rfl := List.mem_singleton.1 hx
                  show p8 ≠ qb; omega
                have Hhne := Lib.hid hne
                clear hne
                go_cut [] (fun wx => Hid (Kn qb wo [(qb, .cells #[.string X, .bool (F || (q && !D)), .bool N, .bool (M || (q && D))] 79), (p8, .cells #[.string Z, .bool D] 68)] wx))
                case first =>
                  cases q with
                  | true =>
                    have kA : Kn qb wo [(qb, .cells #[.string X, .bool (F || !D), .bool N, .bool M] 79), (p8, .cells #[.string Z, .bool D] 68)] (w7.setRow qb #[.string X, .bool (F || !D), .bool N, .bool M]) := K7.out.row (Nat.le_refl _) Hhne.out _
                    have hcM : (w7.setRow qb #[.string X, .bool (F || !D), .bool N, .bool M]).cell? ⟨qb, 3, none⟩ = some (.bool M) := cell_row (kA.get 0 rfl) (i := 3) rfl
                    have hcE : (w7.setRow qb #[.string X, .bool (F || !D), .bool N, .bool M]).cell? ⟨p8, 1, none⟩ = some (.bool D) := cell_row (kA.get 1 rfl) (i := 1) rfl
                    have KB : Hid (Kn qb wo [(qb, .cells #[.string X, .bool (F || !D), .bool N, .bool (M || D)] 79), (p8, .cells #[.string Z, .bool D] 68)] ((w7.setRow qb #[.string X, .bool (F || !D), .bool N, .bool M]).setRow qb #[.string X, .bool (F || !D), .bool N, .bool (M || D)])) := kA.row (Nat.le_refl _) Hhne.out _
                    have hg1 := Lib.hid (K7.out.get 0 rfl)
                    have hg3 := Lib.hid (kA.get 0 rfl)
                    clear kA K7 HhF1 HhM1 HhN1
                    cases F <;> cases D <;> cases M <;> (
                      simp only [Bool.or_true, Bool.true_or, Bool.or_false, Bool.false_or, Bool.not_true, Bool.not_false] at hcM hcE hg1 hg3 KB
                      go_wp2_with (first | refine kl_set rfl 4 _ _ rfl qb 1 rfl (.bool true) rfl _ _ hg1.out szB (by show 1 < 4; omega) rfl ?_ | refine kl_set rfl 4 _ _ rfl qb 1 rfl (.bool false) rfl _ _ hg1.out szB (by show 1 < 4; omega) rfl ?_ | refine kl_set rfl 4 _ _ rfl qb 3 rfl (.bool true) rfl _ _ hg3.out szB (by show 3 < 4; omega) rfl ?_ | refine kl_set rfl 4 _ _ rfl qb 3 rfl (.bool false) rfl _ _ hg3.out szB (by show 3 < 4; omega) rfl ?_)
                      go_meet
                      case rel => exact KB)
                  | false =>
                    go_wp2_with fail
                    go_meet
                    case rel => simpa using K7
                case rest =>
                  have HK8 := hcut
                  clear hcut K7 hcS hcD hcX hcF
                  have hcS := cell_row (HK8.out.get 1 rfl) (i := 0) (v := .string Z) rfl
                  have hcX := cell_row (HK8.out.get 0 rfl) (i := 0) (v := .string X) rfl
                  have hcN := cell_row (HK8.out.get 0 rfl) (i := 2) (v := .bool N) rfl
                  cases N with
                  | true =>
                    have hg2 := Lib.hid (HK8.out.get 0 rfl)
                    have kC := HK8.out.row (Nat.le_refl _) Hhne.out (Array.setIfInBounds #[.string X, .bool (F || (q && !D)), .bool true, .bool (M || (q && D))] 2 (.bool true))
                    have KC := Lib.hid kC
                    clear kC HK8
                    go_wp2_with (refine kl_set rfl 4 _ _ rfl qb 2 rfl (.bool true) rfl _ _ hg2.out szB (by show 2 < 4; omega) rfl ?_)
                    go_roundw
                    case rel =>
                      refine ⟨t + 1, by omega, by go_num, ?_⟩
                      rw [HhF1.out, HhM1.out, HhN1.out]
                      exact Lib.hid (KC.out.sub (fun z hz => by rw [List.mem_singleton.1 hz]; exact List.mem_cons_self ..))
                    case measure => simp [intOf]; omega
                  | false =>
                    go_wp2_with fail
                    refine (HhW.out _).mono ?_
                    rintro e w9 ⟨rfl, hb9⟩
                    have k9 := HK8.out.call hb9
                    have hg2 := Lib.hid (k9.get 0 rfl)
                    have kC := k9.row (Nat.le_refl _) Hhne.out (Array.setIfInBounds #[.string X, .bool (F || (q && !D)), .bool false, .bool (M || (q && D))] 2 (.bool (Pm.within S x)))
                    have KC := Lib.hid kC
                    clear kC k9 HK8 hcS hcX hcN hb9
                    go_wp2_with (refine kl_set rfl 4 _ _ rfl qb 2 rfl (.bool (Pm.within S x)) rfl _ _ hg2.out szB (by show 2 < 4; omega) rfl ?_)
                    go_roundw
                    case rel =>
                      refine ⟨t + 1, by omega, by go_num, ?_⟩
                      rw [HhF1.out, HhM1.out, HhN1.out]
                      exact Lib.hid (KC.out.sub (fun z hz => by rw [List.mem_singleton.1 hz]; exact List.mem_cons_self ..))
                    case measure => simp [intOf]; omega
              · have hEz : ((E : Int) != 0) = true := by rw [bne_iff_ne]; omega
                have hEz2 : ((E : Int) == 0) = false := by rw [beq_eq_false_iff_ne]; omega
                have k7 := K6.out.alloc' (.cells #[.string Z, .bool D] 68)
                have e0 : (E == 0) = false := by rw [beq_eq_false_iff_ne]; exact hE0
                have e1 := HhF'.out
                have e2 := HhM'.out
                have e3 := HhN'.out
                rw [e0, Bool.false_and, Bool.or_false] at e1 e2 e3
                rw [← e1, ← e2, ← e3] at k7
                have K7 := Lib.hid k7
                clear e0 e1 e2 e3 k7
                go_wp2_with fail
                go_roundw
                case rel => exact ⟨t + 1, by omega, by go_num, K7⟩
                case measure => simp [intOf]; omega
            · obtain rfl : t = i := by omega
              have htI : ¬ (t : Int) < t := by omega
              have hTk : ks.take t = ks := by rw [Hhnn.out, List.take_length]
              have hK := HK.out
              rw [hTk] at hK
              obtain ⟨F, hF⟩ : ∃ F, F = Km.seen ks x false := ⟨_, rfl⟩
              obtain ⟨M, hM⟩ : ∃ M, M = Km.seen ks x true := ⟨_, rfl⟩
              obtain ⟨N, hN⟩ : ∃ N, N = Km.anyW ks x := ⟨_, rfl⟩
              rw [← hF, ← hM, ← hN] at hK
              have hent : entV ks x = [Value.string X, .bool F, .bool (N || M), .bool M] := by
                unfold entV
                rw [HhX.out, hF, hM, hN, Km.dirOf_is, Bool.or_comm]
              have hcN := cell_row (hK.get 0 rfl) (i := 2) (v := .bool N) rfl
              have hcM := cell_row (hK.get 0 rfl) (i := 3) (v := .bool M) rfl
              have hg2 := hK.get 0 rfl
              have kC := hK.row (Nat.le_refl _) (fun _ h => by cases h) #[.string X, .bool F, .bool (N || M), .bool M]
              have hnext := entsV_next (ks := ks) hjl
              rw [← Hhx.out, hent] at hnext
              have HhK := Lib.hid hK
              have Hhg2 := Lib.hid hg2
              have HkC := Lib.hid kC
              have Hhnext := Lib.hid hnext
              clear hK hg2 kC hnext
              clear hF hM hN hTk HK HK5 hent
              go_upto_region 28 with fail
              go_cut [] (fun wx => Hid (Kn qb wo [(qb, .cells #[.string X, .bool F, .bool (N || M), .bool M] 79)] wx))
              case first =>
                cases N <;> cases M <;> (
                  simp only [Bool.or_true, Bool.true_or, Bool.or_false, Bool.false_or, Bool.not_true, Bool.not_false] at HkC
                  go_wp2_with (first | refine kl_set rfl 4 _ _ rfl qb 2 rfl (.bool true) rfl _ _ Hhg2.out szB (by show 2 < 4; omega) rfl ?_ | refine kl_set rfl 4 _ _ rfl qb 2 rfl (.bool false) rfl _ _ Hhg2.out szB (by show 2 < 4; omega) rfl ?_)
                  go_meet
                  case rel => exact HkC)
              case rest =>
                have HK8 := hcut
                clear hcut HkC HhK Hhg2 hcN hcM
                have HOr := Lib.hid (own4_below HO.out (by rw [← Hqb.out]; exact HK8.out.below))
                have HW5 := Lib.hid (HB.out.trans (HK8.out.below.mono (by rw [Hqb.out]; exact HB.out.size)))
                have hbr := HW5.out.size
                have hr5 := Lib.hid (HK8.out.get 0 rfl)
                have hi16 : j < 16777216 := by have := Hhz6.out; omega
                go_wp2_with (first | refine wpList_load_row rfl 79 _ rfl qb rfl _ _ _ _ hr5.out Tryd.underlying79 rfl n79s ?_ | (at_builtin; refine kl_append1 rfl _ _ 76 rfl w2.heap.size 79 i9 (.agg #[.string ⟨#[]⟩, .bool false, .bool false, .bool false]) 4 24 Tryd.underlying76 hi9 hy0 hy1 hy2 rfl (by decide) _ j _ rfl HOr.out 1 #[.string X, .bool F, .bool (N || M), .bool M] rfl rfl (by simp [Value.oneCell']) (by omega) (by omega) hbr ?_; intro v' w' hown' hbel hsz' hne'))
                replace hown' := (Hhnext.out ▸ hown' : w'.ownsRow w2.heap.size 79 4 v' (j + 1) (entsV ks (xs.take (j + 1))))
                have HO7 := Lib.hid hown'
                have HB7 := Lib.hid (HW5.out.trans hbel)
                clear hown' hbel HOr hr5 HW5 HK8
                go_wp2_with fail
                go_roundw
                case rel => exact ⟨j + 1, v', rfl, by omega, by go_num, HB7, HO7⟩
                case measure => simp [intOf]; omega
        · obtain rfl : j = m2 := by omega
          have hbn : ¬ (j : Int) < j := by omega
          go_wp2_with fail
          go_ret
          have hx : xs.take j = xs := by rw [Hhm2.out, List.take_length]
          have h := HO.out
          rw [hx] at h
          refine ⟨_, rfl, xs, HhFS.out, ?_, Hhb3.out.trans (HB.out.mono hws)⟩
          rw [← Hhm2.out]
          exact own4_base h hws
end Go.Proofs.YtidmjepfpjfkoaaDoor

namespace Go.Proofs.YtidmjepfpjfkoaaDoor
open Go Go.RowKit
set_option linter.unusedVariables false
theorem kl_gd {P : Program} {ops : Array Oper} {rest : List Oper} {o : Oper} {a : Act} {w : World} {Q : Exit → Act → World → Prop} (hw : Region.wanted o (yielded ops a.tmps) = true)
    (h : wpList P ops Q ({ o with guard := none } :: rest) a w) : wpList P ops Q (o :: rest) a w := by
  unfold wpList at h ⊢
  rw [if_pos hw]
  rw [if_pos (by rfl)] at h
  exact h
theorem flat_get {α : Type} (f : α → List Value) (k : Nat) (hf : ∀ y, (f y).length = k) : ∀ (ys : List α) (i j : Nat) (hi : i < ys.length), j < k → (ys.flatMap f)[i * k + j]? = (f ys[i])[j]?
  | [], i, j, hi, _ => by simp at hi
  | y :: ys, 0, j, hi, hj => by
    rw [List.flatMap_cons, Nat.zero_mul, Nat.zero_add, List.getElem?_append_left (by rw [hf]; exact hj)]
    rfl
  | y :: ys, i + 1, j, hi, hj => by
    rw [List.flatMap_cons, Nat.add_mul, Nat.one_mul, List.getElem?_append_right (by rw [hf]; omega), hf, show i * k + k + j - k = i * k + j by omega]
    exact flat_get f k hf ys i j (by simpa using hi) hj
/-- a wide row of the call's own, its elements read -/
theorem owns_wide {α : Type} {w : World} {base k : Nat} {e : TypeId} {v : Value} {f : α → List Value} {ys : List α} (hf : ∀ y, (f y).length = k) (h : w.ownsRow base e k v ys.length (ys.flatMap f)) :
    ∃ A c, v = .slice A ys.length c ∧ ∀ i (hi : i < ys.length), ∃ g, A = some ⟨g, 0, none⟩ ∧ g < w.heap.size ∧ w.rangeAt g (i * k) (f ys[i]) := by
  rcases h.2 with ⟨rfl, hn⟩ | ⟨g, cap, cur, rfl, _, hh, _⟩
  · refine ⟨none, 0, by rw [hn], fun i hi => by omega⟩
  · refine ⟨_, cap, rfl, fun i hi => ⟨g, rfl, lt_of_block hh, fun j u hj => ?_⟩⟩
    have hjk : j < k := by
      have := (List.getElem?_eq_some_iff.1 hj).1
      rwa [hf] at this
    have h2 := h.cells (g := g) rfl (i * k + j) u (by rw [flat_get f k hf ys i j hi hjk]; exact hj)
    rw [Addr.add_mid, Nat.zero_add] at h2
    exact h2
theorem ab_load_mid {P : Program} {o : Oper} {a : Act} {w : World} (ty : TypeId) (x : Operand) (ho : o.op = .load ty x) (b off : Nat) (hx : a.eval x = .pointer (some ⟨b, off, none⟩)) (cs : Array Value) (d : TypeDesc)
    (hc : w.rangeAt b off cs.toList) (hu : P.underlying ty = some d) (hd : d.isRow = true) (hi : (P.info? ty).map (·.size) = some cs.size) : (execOp a.eval o).run P w = .ok (.value (.agg cs)) w := by
  unfold execOp
  simp only [ho, hx, Instr.loadAt, Instr.sureAddr, Sem.run_bind, Sem.run_pure, Result.andThen_ok, run_loadVar_mid w b off ty cs.toList d hc hu hd (by rw [hi, Array.length_toList])]
theorem range_below {B g o : Nat} {cs : List Value} {w w' : World} (h : w.rangeAt g o cs) (hb : Below B w w') (hg : g < B) : w'.rangeAt g o cs := fun j u hj => (hb.cell (p := ⟨g, o + j, none⟩) hg).trans (h j u hj)
theorem entV_is (ks : List Km.By) (x : Km.By) : ∃ X F D M, entV ks x = [Value.string X, .bool F, .bool D, .bool M] := ⟨_, _, _, _, rfl⟩
theorem rd_fresh (w : World) (ps : List (List UInt8)) : RdS (.slice (some ⟨w.heap.size, 0, none⟩) ps.length ps.length) ps.length (pv ps) (w.alloc (.cells (pv ps).toArray 9)).heap.size (w.alloc (.cells (pv ps).toArray 9)) := by
  have := cells_rd (c := ps.length) (heap_alloc_new w (.cells (pv ps).toArray 9)) (by rw [pv_length]; exact Nat.le_refl _)
  rw [pv_length] at this
  exact this
theorem entV_length (ks : List Km.By) (y : Km.By) : (entV ks y).length = 4 := rfl
end Go.Proofs.YtidmjepfpjfkoaaDoor
