/-
  Walks: shoalsynclaw04.KeyEntries. (Written by gen_khe.py.)
-/
import Derived.Test.YtidmjepfpjfkoaaDoorMn
namespace Go.Proofs.YtidmjepfpjfkoaaDoor
open Go Go.RowKit
set_option maxHeartbeats 8000000
set_option maxRecDepth 20000
set_option linter.unusedVariables false
set_option linter.unusedSimpArgs false

theorem kq {α : Type} {l : List α} {i : Nat} {o : α} (h : l[i]? = some o) : l.toArray[i]? = some o := by rw [List.getElem?_toArray]; exact h
theorem z1 {α : Type} (l : List α) (i : Nat) (a : α) : l.toArray.setIfInBounds i a = (l.set i a).toArray := by rw [List.setIfInBounds_toArray]
theorem z2 {α : Type} {x : α} {xs : List α} {a : α} : (x :: xs).set 0 a = a :: xs := rfl
theorem z3 {α : Type} {x : α} {xs : List α} {i : Nat} {a : α} : (x :: xs).set (i + 1) a = x :: xs.set i a := rfl
theorem any_step (ks : List Km.By) (y : Km.By) (t : Nat) (k : Km.By) (hT : ks.take t ++ [k] = ks.take (t + 1)) : ((ks.take (t + 1)).any fun z => z == y) = (((ks.take t).any fun z => z == y) || (k == y)) := by
  rw [← hT, List.any_append]
  simp
theorem keyEntries (ks : List (List UInt8)) (A : Option Addr) (c : Nat) (w : World) (hG : Gl w) (hrd : RdS (.slice A ks.length c) ks.length (pv ks) w.heap.size w) :
    Calls Tryd.prog 10 #[.slice A ks.length c] w fun e w' => e = .returned (.bool true) ∧ Below w.heap.size w w' := by
  have hgl := hG.lt
  have hG2 : ∀ W, Below w.heap.size w W → Gl W := fun W h => hG.below h hgl
  have ca := awake04 w hG
  have cf := fun W (h : Below w.heap.size w W) => few04 ks A c W ((hrd.below h).mono h.size)
  have c1 := fun W (h : fewK ks = true) (hb : Below w.heap.size w W) A' c' => keyFold ks (fun k hk => by have := (fewK_is h).2 k hk; omega) (by have := (fewK_is h).1; omega) A' c' W (hG2 W hb)
  have hn40 := fun (h : fewK ks = true) => (fewK_is h).1
  have hrdW := fun W (h : Below w.heap.size w W) => (hrd.below h).mono h.size
  obtain ⟨n, hn⟩ : ∃ n, n = ks.length := ⟨_, rfl⟩
  rw [← hn] at cf c1 hn40 hrdW hrd ⊢
  obtain ⟨i0, hi0, hz0, hz1, hz2⟩ := info_parts info_str
  obtain ⟨i8, hi8, hy0, hy1, hy2⟩ := info_parts info80
  obtain ⟨FW, hFW⟩ : ∃ F, F = fewK ks := ⟨_, rfl⟩
  rw [← hFW] at cf c1 hn40
  have Hca := Lib.hid ca
  have Hcf := Lib.hid cf
  have Hc1 := Lib.hid c1
  have HhG2 := Lib.hid hG2
  have HhrdW := Lib.hid hrdW
  have Hhn := Lib.hid hn
  have HhFW := Lib.hid hFW
  have Hhrd := Lib.hid hrd
  clear ca cf c1 hG2 hrdW hn hFW hrd
  clear hG
  go_enter Tryd.func10, Tryd.ntmps10
  go_wp2_with fail
  refine Hca.out.mono ?_
  rintro e w1 ⟨rfl, b1⟩
  go_wp2_with fail
  refine (Hcf.out _ b1).mono ?_
  rintro e w2 ⟨rfl, rfl⟩
  cases FW with
  | false =>
    go_wp2_with fail
    go_ret
    exact ⟨rfl, b1⟩
  | true =>
    have hn40' := hn40 rfl
    clear hn40
    have s1 := b1.size
    have b2 := b1.alloc s1 (.cells #[] 9)
    have hO := owns_empty w2 w.heap.size 9 s1
    have hR := HhrdW.out _ b2
    have s2 : w.heap.size ≤ (w2.alloc (.cells #[] 9)).heap.size := b2.size
    go_wp2_with (refine kl_append_rdg rfl _ _ 56 rfl w.heap.size 9 i0 (.string ⟨#[]⟩) 16 Tryd.underlying56 hi0 hz0 hz1 hz2 rfl _ 0 [] rfl hO _ n (pv ks) _ rfl hR (pv_one _) (by omega) (by omega) s2 ?_; intro v3 w3 hown hgr hb3)
    rw [List.nil_append, Nat.zero_add] at hown
    have hr3 := owns_rdS hown
    have b3 := b2.trans hb3
    clear hO hR hown hgr hb3 b1 b2 s1 s2
    obtain ⟨A3, c3, rfl⟩ := hr3.slice
    have hS1 := Lib.hid (Hc1.out w3 trivial b3 A3 c3 hr3)
    clear hr3
    go_wp2_with fail
    refine hS1.out.mono ?_
    rintro e w4 ⟨v4, rfl, xs, hFS, ho4, hb4, hl4⟩
    have b4 := b3.trans (hb4.mono b3.size)
    clear b3 hb4 hS1
    obtain ⟨A4, c4, rfl, hat4⟩ := owns_wide (entV_length ks) ho4
    obtain ⟨m, hm⟩ : ∃ m, m = xs.length := ⟨_, rfl⟩
    rw [← hm] at hl4 ⊢
    have HhFS := Lib.hid hFS
    have Hhat4 := Lib.hid hat4
    have Hhm := Lib.hid hm
    have Hb4 := Lib.hid b4
    clear hFS hat4 hm b4
    clear ho4
    go_wp2_with fail
    go_loopw [4] (fun iv wr => ∃ i : Nat, i ≤ m ∧ iv = .int .i64 (i : Int) ∧ Hid (Below w4.heap.size w4 wr)) (fun iv _ => m - (intOf iv).toNat)
    case atStart => exact ⟨0, by omega, rfl, Below.refl _ _⟩
    case round =>
      obtain ⟨i, hi, rfl, HB⟩ := hrel
      have hbi : (0 : Int) ≤ i := by omega
      by_cases hin : i < m
      · generalize wr = wo at *
        have hil : i < xs.length := by rw [← Hhm.out]; exact hin
        have hbn : (i : Int) < m := by omega
        obtain ⟨g, hA4, hg4, hr4⟩ := Hhat4.out i hil
        subst hA4
        have hgS : ∀ j (hj : j < xs.length), wo.rangeAt g (j * 4) (entV ks xs[j]) := fun j hj => by
          obtain ⟨g', e, h1, h2⟩ := Hhat4.out j hj
          injection e with e
          injection e with e
          subst e
          exact range_below h2 HB.out hg4
        have HW2 := Lib.hid (Hb4.out.trans (HB.out.mono Hb4.out.size))
        have hgo : g < wo.heap.size := Nat.lt_of_lt_of_le hg4 HB.out.size
        obtain ⟨x, hx⟩ : ∃ x, x = xs[i] := ⟨_, rfl⟩
        have hr5 := hgS i hil
        rw [← hx] at hr5
        obtain ⟨X, hX⟩ : ∃ X, X = tk x := ⟨_, rfl⟩
        obtain ⟨F, hF⟩ : ∃ F, F = Km.seen ks x false := ⟨_, rfl⟩
        obtain ⟨D, hD⟩ : ∃ D, D = Km.dirOf ks x := ⟨_, rfl⟩
        obtain ⟨M, hM⟩ : ∃ M, M = Km.seen ks x true := ⟨_, rfl⟩
        obtain ⟨nW, hnW⟩ : ∃ b, b = Km.nextW xs i := ⟨_, rfl⟩
        have he : entV ks x = [Value.string X, .bool F, .bool D, .bool M] := by unfold entV; rw [hX, hF, hD, hM]
        rw [he] at hr5
        have hxr := HhFS.out.right i hil
        have hfD := HhFS.out.some_ i hil
        have hnD := HhFS.out.next i hil
        have hmade := HhFS.out.made i hil
        have hfile := HhFS.out.file i hil
        rw [← hx] at hxr hfD hnD hmade hfile
        rw [← hF, ← hD] at hfD
        rw [← hD, ← hM, ← hnW] at hnD
        rw [← hF] at hfile
        have hmD : M = true → D = true := fun h => by rw [hnD, h]; rfl
        have hx64 := right_64 hxr
        have cR : ∀ W, Below w.heap.size w W → Calls Tryd.prog 39 #[.string X] W fun e w' => e = .returned (.int .i64 0) ∧ Below W.heap.size W w' := fun W h => by
          have h1 := pathRight X (by rw [hX, tk_size]; omega) W (HhG2.out W h)
          rw [show X.data.toList = x by rw [hX]; rfl, hxr] at h1
          exact h1
        have cO : ∀ W, Below w.heap.size w W → Calls Tryd.prog 29 #[.string X] W fun e w' => e = .returned (.tuple #[.string (tk (Km.esc x)), .int .i64 0]) ∧ Below W.heap.size W w' := fun W h => by
          have h1 := keyOf X (by rw [hX, tk_size]; omega) W (HhG2.out W h)
          rw [show X.data.toList = x by rw [hX]; rfl, hmade.1, hmade.2] at h1
          exact h1
        obtain ⟨EX, hEX⟩ : ∃ E, E = tk (Km.esc x) := ⟨_, rfl⟩
        rw [← hEX] at cO
        have k1 := (Kn.start wo).alloc (.cells #[.string X, .bool F, .bool D, .bool M] 80)
        have hstep : ∀ j, i = j + 1 → ∃ Xp : ByteArray, wo.cell? ⟨g, j * 4, none⟩ = some (.string Xp) ∧ ∀ W, Below w.heap.size w W → Calls Tryd.prog 40 #[.string Xp, .string X] W fun e w' => e = .returned (.int .i64 (-1)) ∧ Below W.heap.size W w' := fun j hj => by
          subst hj
          have h1 := hgS j (by omega) 0 _ rfl
          have h2 := HhFS.out.order j hil
          have h3 := right_64 (HhFS.out.right j (by omega))
          refine ⟨_, h1, fun W h => ?_⟩
          have h4 := pathCompare (tk (xs[j]'(by omega))) X (by rw [tk_size]; omega) (by rw [hX, tk_size]; omega) W (HhG2.out W h)
          rw [show X.data.toList = x by rw [hX]; rfl, show (tk (xs[j]'(by omega))).data.toList = xs[j]'(by omega) from rfl, hx, h2] at h4
          exact h4
        have hnext : ∀ (h : i + 1 < xs.length), ∃ Xn : ByteArray, wo.cell? ⟨g, (i + 1) * 4, none⟩ = some (.string Xn) ∧ ∀ W, Calls Tryd.prog 41 #[.string Xn, .string X] W fun e w' => e = .returned (.bool nW) ∧ Below W.heap.size W w' := fun h => by
          have h1 := hgS (i + 1) h 0 _ rfl
          refine ⟨_, h1, fun W => ?_⟩
          refine (pathWithin (tk (xs[i + 1])) X (by rw [hX, tk_size]; omega) W).mono fun e w' hh => ⟨?_, by rw [hh.2]; exact Below.refl _ _⟩
          rw [hh.1, show X.data.toList = x by rw [hX]; rfl, show (tk xs[i + 1]).data.toList = xs[i + 1] from rfl, hnW, Km.nextW_yes h, hx]
        have hrX := Lib.hid hr5
        have hnWno : xs.length ≤ i + 1 → nW = false := fun h => by rw [hnW]; exact Km.nextW_no h
        have HcR := Lib.hid cR
        have HcO := Lib.hid cO
        have Hhstep := Lib.hid hstep
        have Hhnext := Lib.hid hnext
        have HhfD := Lib.hid hfD
        have HhmD := Lib.hid hmD
        have HhnD := Lib.hid hnD
        have Hhfile := Lib.hid hfile
        have HhEX := Lib.hid hEX
        have Hhr4 := Lib.hid hr4
        have HhnWno := Lib.hid hnWno
        clear cR cO hstep hnext hfD hmD hnD hfile hEX hr4 hnWno
        clear hX hF hD hM hnW he hxr hmade hx64 hr5 hgS hx
        go_upto_region 10 with (first | refine wpList_load_mid rfl 80 _ rfl g (i * 4) rfl [Value.string X, .bool F, .bool D, .bool M] _ hrX.out Tryd.underlying80 rfl n80s ?_ | refine kl_alloc rfl 80 rfl #[.string ⟨#[]⟩, .bool false, .bool false, .bool false] i8 hi8 _ hy0 rfl ?_ | refine kl_store_new rfl 80 _ _ rfl #[.string X, .bool F, .bool D, .bool M] rfl rfl _ _ n80s rfl (one4 rfl rfl rfl rfl) ?_)
        simp only [Act.put, z1, z2, z3]
        generalize wo.alloc (.cells #[.string X, .bool F, .bool D, .bool M] 80) = w5 at *
        obtain ⟨qb, hqb⟩ : ∃ qb, qb = wo.heap.size := ⟨_, rfl⟩
        rw [← hqb] at k1 hgo ⊢
        have HWS := Lib.hid (fun W (h : Below qb wo W) => HW2.out.trans (h.mono (by rw [hqb]; exact HW2.out.size)))
        have HK1 := Lib.hid k1
        have Hqb := Lib.hid hqb
        clear k1 hqb
        go_cut [68] (fun v wx => v = .bool false ∧ Hid (Kn qb wo [(qb, .cells #[.string X, .bool F, .bool D, .bool M] 80)] wx))
        case first =>
          clear Hhnext HcO HhnD Hhfile
          by_cases hpos : (0 : Int) < (i : Int)
          · obtain ⟨j, hj⟩ : ∃ j, i = j + 1 := ⟨i - 1, by omega⟩
            obtain ⟨Xp, hcp, hcc⟩ := Hhstep.out j hj
            have hpush : (i : Int) = (j : Int) + 1 := by omega
            have HcP := Lib.hid (fun wS (h : Below qb wo wS) => (h.cell (p := ⟨g, j * 4, none⟩) hgo).trans hcp)
            have HcC := Lib.hid hcc
            have hbj : (0 : Int) ≤ j := by omega
            have hbj2 : (j : Int) < m := by omega
            have hwr := IntWalk.i64_in (j : Int) (by omega)
            subst hj
            clear hcp hcc Hhstep
            cases F with
            | true =>
              cases D with
              | true =>
                cases M with
                | true =>
                  refine wp_region_abs qb wo [(qb, .cells #[.string X, .bool true, .bool true, .bool true] 80)] ((true,0)::(true,1)::(true,2)::(true,3)::(true,4)::(true,5)::(true,6)::(true,7)::(true,8)::(true,9)::(true,10)::(true,11)::(true,12)::(true,13)::(true,14)::(true,15)::(true,16)::(true,17)::(true,18)::(true,19)::(true,20)::(true,21)::(true,22)::(true,23)::(true,24)::(true,25)::(true,26)::(true,27)::(true,28)::(true,29)::(true,30)::(true,31)::(true,32)::(true,33)::(true,34)::(true,35)::(true,36)::(true,37)::(true,38)::[]) (by kernel_rfl) (by kernel_rfl) HK1.out.drew ?_
                  apply ab_pure
                  · (apply kq; rfl)
                  · rfl
                  · (intro wS hS; go_simp; try exact rfl)
                  simp only [Act.put, z1, z2, z3]
                  apply ab_pure
                  · (apply kq; rfl)
                  · rfl
                  · (intro wS hS; have hc := cell_row (hS.get 0 rfl) (i := 0) (v := .string X) rfl; go_simp; try exact rfl)
                  simp only [Act.put, z1, z2, z3]
                  apply ab_call
                  · (apply kq; rfl)
                  · rfl
                  · (intro _; go_simp; first | exact ⟨rfl, rfl⟩ | exact rfl)
                  · (intro wS hS; exact HcR.out wS (HWS.out wS hS.below))
                  simp only [Act.put, z1, z2, z3]
                  apply ab_pure (v := .bool false)
                  · (apply kq; rfl)
                  · rfl
                  · (intro wS hS; go_simp; done)
                  simp only [Act.put, z1, z2, z3]
                  iterate 2
                   apply ab_pure
                   · (apply kq; rfl)
                   · rfl
                   · (intro wS hS; go_simp; try exact rfl)
                   simp only [Act.put, z1, z2, z3]
                  apply ab_pure (v := .bool true)
                  · (apply kq; rfl)
                  · rfl
                  · (intro wS hS; go_simp; done)
                  simp only [Act.put, z1, z2, z3]
                  iterate 3
                   apply ab_pure
                   · (apply kq; rfl)
                   · rfl
                   · (intro wS hS; go_simp; try exact rfl)
                   simp only [Act.put, z1, z2, z3]
                  apply ab_pure (v := .int .i64 (j : Int))
                  · (apply kq; rfl)
                  · rfl
                  · (intro wS hS; go_simp; done)
                  simp only [Act.put, z1, z2, z3]
                  iterate 2
                   apply ab_pure
                   · (apply kq; rfl)
                   · rfl
                   · (intro wS hS; go_simp; try exact rfl)
                   simp only [Act.put, z1, z2, z3]
                  apply ab_pure
                  · (apply kq; rfl)
                  · rfl
                  · (intro wS hS; have hc := HcP.out wS hS.below; go_simp; try exact rfl)
                  simp only [Act.put, z1, z2, z3]
                  apply ab_pure
                  · (apply kq; rfl)
                  · rfl
                  · (intro wS hS; go_simp; try exact rfl)
                  simp only [Act.put, z1, z2, z3]
                  apply ab_pure
                  · (apply kq; rfl)
                  · rfl
                  · (intro wS hS; have hc := cell_row (hS.get 0 rfl) (i := 0) (v := .string X) rfl; go_simp; try exact rfl)
                  simp only [Act.put, z1, z2, z3]
                  apply ab_call
                  · (apply kq; rfl)
                  · rfl
                  · (intro _; go_simp; first | exact ⟨rfl, rfl⟩ | exact rfl)
                  · (intro wS hS; exact HcC.out wS (HWS.out wS hS.below))
                  simp only [Act.put, z1, z2, z3]
                  apply ab_pure (v := .bool false)
                  · (apply kq; rfl)
                  · rfl
                  · (intro wS hS; go_simp; done)
                  simp only [Act.put, z1, z2, z3]
                  iterate 4
                   apply ab_pure
                   · (apply kq; rfl)
                   · rfl
                   · (intro wS hS; go_simp; try exact rfl)
                   simp only [Act.put, z1, z2, z3]
                  apply ab_pure
                  · (apply kq; rfl)
                  · rfl
                  · (intro wS hS; have hc := cell_row (hS.get 0 rfl) (i := 1) (v := .bool true) rfl; go_simp; try exact rfl)
                  simp only [Act.put, z1, z2, z3]
                  iterate 2
                   apply ab_pure
                   · (apply kq; rfl)
                   · rfl
                   · (intro wS hS; go_simp; try exact rfl)
                   simp only [Act.put, z1, z2, z3]
                  iterate 3
                   apply ab_skip
                   · (apply kq; rfl)
                   · rfl
                   simp only [Act.put, z1, z2, z3]
                  iterate 4
                   apply ab_pure
                   · (apply kq; rfl)
                   · rfl
                   · (intro wS hS; go_simp; try exact rfl)
                   simp only [Act.put, z1, z2, z3]
                  apply ab_pure
                  · (apply kq; rfl)
                  · rfl
                  · (intro wS hS; have hc := cell_row (hS.get 0 rfl) (i := 3) (v := .bool true) rfl; go_simp; try exact rfl)
                  simp only [Act.put, z1, z2, z3]
                  iterate 2
                   apply ab_pure
                   · (apply kq; rfl)
                   · rfl
                   · (intro wS hS; go_simp; try exact rfl)
                   simp only [Act.put, z1, z2, z3]
                  apply ab_pure
                  · (apply kq; rfl)
                  · rfl
                  · (intro wS hS; have hc := cell_row (hS.get 0 rfl) (i := 2) (v := .bool true) rfl; go_simp; try exact rfl)
                  simp only [Act.put, z1, z2, z3]
                  iterate 3
                   apply ab_pure
                   · (apply kq; rfl)
                   · rfl
                   · (intro wS hS; go_simp; try exact rfl)
                   simp only [Act.put, z1, z2, z3]
                  refine ab_end ?_
                  intro wE hE
                  have KE := Lib.hid hE
                  clear hE
                  go_wp2_with fail
                  go_meet
                  case rel => exact ⟨rfl, KE⟩
                | false =>
                  refine wp_region_abs qb wo [(qb, .cells #[.string X, .bool true, .bool true, .bool false] 80)] ((true,0)::(true,1)::(true,2)::(true,3)::(true,4)::(true,5)::(true,6)::(true,7)::(true,8)::(true,9)::(true,10)::(true,11)::(true,12)::(true,13)::(true,14)::(true,15)::(true,16)::(true,17)::(true,18)::(true,19)::(true,20)::(true,21)::(true,22)::(true,23)::(true,24)::(true,25)::(true,26)::(true,27)::(true,28)::(true,29)::(true,30)::(true,31)::(true,32)::(true,33)::(true,34)::(true,35)::(true,36)::(true,37)::(true,38)::[]) (by kernel_rfl) (by kernel_rfl) HK1.out.drew ?_
                  apply ab_pure
                  · (apply kq; rfl)
                  · rfl
                  · (intro wS hS; go_simp; try exact rfl)
                  simp only [Act.put, z1, z2, z3]
                  apply ab_pure
                  · (apply kq; rfl)
                  · rfl
                  · (intro wS hS; have hc := cell_row (hS.get 0 rfl) (i := 0) (v := .string X) rfl; go_simp; try exact rfl)
                  simp only [Act.put, z1, z2, z3]
                  apply ab_call
                  · (apply kq; rfl)
                  · rfl
                  · (intro _; go_simp; first | exact ⟨rfl, rfl⟩ | exact rfl)
                  · (intro wS hS; exact HcR.out wS (HWS.out wS hS.below))
                  simp only [Act.put, z1, z2, z3]
                  apply ab_pure (v := .bool false)
                  · (apply kq; rfl)
                  · rfl
                  · (intro wS hS; go_simp; done)
                  simp only [Act.put, z1, z2, z3]
                  iterate 2
                   apply ab_pure
                   · (apply kq; rfl)
                   · rfl
                   · (intro wS hS; go_simp; try exact rfl)
                   simp only [Act.put, z1, z2, z3]
                  apply ab_pure (v := .bool true)
                  · (apply kq; rfl)
                  · rfl
                  · (intro wS hS; go_simp; done)
                  simp only [Act.put, z1, z2, z3]
                  iterate 3
                   apply ab_pure
                   · (apply kq; rfl)
                   · rfl
                   · (intro wS hS; go_simp; try exact rfl)
                   simp only [Act.put, z1, z2, z3]
                  apply ab_pure (v := .int .i64 (j : Int))
                  · (apply kq; rfl)
                  · rfl
                  · (intro wS hS; go_simp; done)
                  simp only [Act.put, z1, z2, z3]
                  iterate 2
                   apply ab_pure
                   · (apply kq; rfl)
                   · rfl
                   · (intro wS hS; go_simp; try exact rfl)
                   simp only [Act.put, z1, z2, z3]
                  apply ab_pure
                  · (apply kq; rfl)
                  · rfl
                  · (intro wS hS; have hc := HcP.out wS hS.below; go_simp; try exact rfl)
                  simp only [Act.put, z1, z2, z3]
                  apply ab_pure
                  · (apply kq; rfl)
                  · rfl
                  · (intro wS hS; go_simp; try exact rfl)
                  simp only [Act.put, z1, z2, z3]
                  apply ab_pure
                  · (apply kq; rfl)
                  · rfl
                  · (intro wS hS; have hc := cell_row (hS.get 0 rfl) (i := 0) (v := .string X) rfl; go_simp; try exact rfl)
                  simp only [Act.put, z1, z2, z3]
                  apply ab_call
                  · (apply kq; rfl)
                  · rfl
                  · (intro _; go_simp; first | exact ⟨rfl, rfl⟩ | exact rfl)
                  · (intro wS hS; exact HcC.out wS (HWS.out wS hS.below))
                  simp only [Act.put, z1, z2, z3]
                  apply ab_pure (v := .bool false)
                  · (apply kq; rfl)
                  · rfl
                  · (intro wS hS; go_simp; done)
                  simp only [Act.put, z1, z2, z3]
                  iterate 4
                   apply ab_pure
                   · (apply kq; rfl)
                   · rfl
                   · (intro wS hS; go_simp; try exact rfl)
                   simp only [Act.put, z1, z2, z3]
                  apply ab_pure
                  · (apply kq; rfl)
                  · rfl
                  · (intro wS hS; have hc := cell_row (hS.get 0 rfl) (i := 1) (v := .bool true) rfl; go_simp; try exact rfl)
                  simp only [Act.put, z1, z2, z3]
                  iterate 2
                   apply ab_pure
                   · (apply kq; rfl)
                   · rfl
                   · (intro wS hS; go_simp; try exact rfl)
                   simp only [Act.put, z1, z2, z3]
                  iterate 3
                   apply ab_skip
                   · (apply kq; rfl)
                   · rfl
                   simp only [Act.put, z1, z2, z3]
                  iterate 4
                   apply ab_pure
                   · (apply kq; rfl)
                   · rfl
                   · (intro wS hS; go_simp; try exact rfl)
                   simp only [Act.put, z1, z2, z3]
                  apply ab_pure
                  · (apply kq; rfl)
                  · rfl
                  · (intro wS hS; have hc := cell_row (hS.get 0 rfl) (i := 3) (v := .bool false) rfl; go_simp; try exact rfl)
                  simp only [Act.put, z1, z2, z3]
                  apply ab_pure
                  · (apply kq; rfl)
                  · rfl
                  · (intro wS hS; go_simp; try exact rfl)
                  simp only [Act.put, z1, z2, z3]
                  iterate 3
                   apply ab_skip
                   · (apply kq; rfl)
                   · rfl
                   simp only [Act.put, z1, z2, z3]
                  iterate 2
                   apply ab_pure
                   · (apply kq; rfl)
                   · rfl
                   · (intro wS hS; go_simp; try exact rfl)
                   simp only [Act.put, z1, z2, z3]
                  refine ab_end ?_
                  intro wE hE
                  have KE := Lib.hid hE
                  clear hE
                  go_wp2_with fail
                  go_meet
                  case rel => exact ⟨rfl, KE⟩
              | false =>
                cases M with
                | true =>
                  exact absurd (HhmD.out rfl) (by decide)
                | false =>
                  refine wp_region_abs qb wo [(qb, .cells #[.string X, .bool true, .bool false, .bool false] 80)] ((true,0)::(true,1)::(true,2)::(true,3)::(true,4)::(true,5)::(true,6)::(true,7)::(true,8)::(true,9)::(true,10)::(true,11)::(true,12)::(true,13)::(true,14)::(true,15)::(true,16)::(true,17)::(true,18)::(true,19)::(true,20)::(true,21)::(true,22)::(true,23)::(true,24)::(true,25)::(true,26)::(true,27)::(true,28)::(true,29)::(true,30)::(true,31)::(true,32)::(true,33)::(true,34)::(true,35)::(true,36)::(true,37)::(true,38)::[]) (by kernel_rfl) (by kernel_rfl) HK1.out.drew ?_
                  apply ab_pure
                  · (apply kq; rfl)
                  · rfl
                  · (intro wS hS; go_simp; try exact rfl)
                  simp only [Act.put, z1, z2, z3]
                  apply ab_pure
                  · (apply kq; rfl)
                  · rfl
                  · (intro wS hS; have hc := cell_row (hS.get 0 rfl) (i := 0) (v := .string X) rfl; go_simp; try exact rfl)
                  simp only [Act.put, z1, z2, z3]
                  apply ab_call
                  · (apply kq; rfl)
                  · rfl
                  · (intro _; go_simp; first | exact ⟨rfl, rfl⟩ | exact rfl)
                  · (intro wS hS; exact HcR.out wS (HWS.out wS hS.below))
                  simp only [Act.put, z1, z2, z3]
                  apply ab_pure (v := .bool false)
                  · (apply kq; rfl)
                  · rfl
                  · (intro wS hS; go_simp; done)
                  simp only [Act.put, z1, z2, z3]
                  iterate 2
                   apply ab_pure
                   · (apply kq; rfl)
                   · rfl
                   · (intro wS hS; go_simp; try exact rfl)
                   simp only [Act.put, z1, z2, z3]
                  apply ab_pure (v := .bool true)
                  · (apply kq; rfl)
                  · rfl
                  · (intro wS hS; go_simp; done)
                  simp only [Act.put, z1, z2, z3]
                  iterate 3
                   apply ab_pure
                   · (apply kq; rfl)
                   · rfl
                   · (intro wS hS; go_simp; try exact rfl)
                   simp only [Act.put, z1, z2, z3]
                  apply ab_pure (v := .int .i64 (j : Int))
                  · (apply kq; rfl)
                  · rfl
                  · (intro wS hS; go_simp; done)
                  simp only [Act.put, z1, z2, z3]
                  iterate 2
                   apply ab_pure
                   · (apply kq; rfl)
                   · rfl
                   · (intro wS hS; go_simp; try exact rfl)
                   simp only [Act.put, z1, z2, z3]
                  apply ab_pure
                  · (apply kq; rfl)
                  · rfl
                  · (intro wS hS; have hc := HcP.out wS hS.below; go_simp; try exact rfl)
                  simp only [Act.put, z1, z2, z3]
                  apply ab_pure
                  · (apply kq; rfl)
                  · rfl
                  · (intro wS hS; go_simp; try exact rfl)
                  simp only [Act.put, z1, z2, z3]
                  apply ab_pure
                  · (apply kq; rfl)
                  · rfl
                  · (intro wS hS; have hc := cell_row (hS.get 0 rfl) (i := 0) (v := .string X) rfl; go_simp; try exact rfl)
                  simp only [Act.put, z1, z2, z3]
                  apply ab_call
                  · (apply kq; rfl)
                  · rfl
                  · (intro _; go_simp; first | exact ⟨rfl, rfl⟩ | exact rfl)
                  · (intro wS hS; exact HcC.out wS (HWS.out wS hS.below))
                  simp only [Act.put, z1, z2, z3]
                  apply ab_pure (v := .bool false)
                  · (apply kq; rfl)
                  · rfl
                  · (intro wS hS; go_simp; done)
                  simp only [Act.put, z1, z2, z3]
                  iterate 4
                   apply ab_pure
                   · (apply kq; rfl)
                   · rfl
                   · (intro wS hS; go_simp; try exact rfl)
                   simp only [Act.put, z1, z2, z3]
                  apply ab_pure
                  · (apply kq; rfl)
                  · rfl
                  · (intro wS hS; have hc := cell_row (hS.get 0 rfl) (i := 1) (v := .bool true) rfl; go_simp; try exact rfl)
                  simp only [Act.put, z1, z2, z3]
                  iterate 2
                   apply ab_pure
                   · (apply kq; rfl)
                   · rfl
                   · (intro wS hS; go_simp; try exact rfl)
                   simp only [Act.put, z1, z2, z3]
                  iterate 3
                   apply ab_skip
                   · (apply kq; rfl)
                   · rfl
                   simp only [Act.put, z1, z2, z3]
                  iterate 4
                   apply ab_pure
                   · (apply kq; rfl)
                   · rfl
                   · (intro wS hS; go_simp; try exact rfl)
                   simp only [Act.put, z1, z2, z3]
                  apply ab_pure
                  · (apply kq; rfl)
                  · rfl
                  · (intro wS hS; have hc := cell_row (hS.get 0 rfl) (i := 3) (v := .bool false) rfl; go_simp; try exact rfl)
                  simp only [Act.put, z1, z2, z3]
                  apply ab_pure
                  · (apply kq; rfl)
                  · rfl
                  · (intro wS hS; go_simp; try exact rfl)
                  simp only [Act.put, z1, z2, z3]
                  iterate 3
                   apply ab_skip
                   · (apply kq; rfl)
                   · rfl
                   simp only [Act.put, z1, z2, z3]
                  iterate 2
                   apply ab_pure
                   · (apply kq; rfl)
                   · rfl
                   · (intro wS hS; go_simp; try exact rfl)
                   simp only [Act.put, z1, z2, z3]
                  refine ab_end ?_
                  intro wE hE
                  have KE := Lib.hid hE
                  clear hE
                  go_wp2_with fail
                  go_meet
                  case rel => exact ⟨rfl, KE⟩
            | false =>
              cases D with
              | true =>
                cases M with
                | true =>
                  refine wp_region_abs qb wo [(qb, .cells #[.string X, .bool false, .bool true, .bool true] 80)] ((true,0)::(true,1)::(true,2)::(true,3)::(true,4)::(true,5)::(true,6)::(true,7)::(true,8)::(true,9)::(true,10)::(true,11)::(true,12)::(true,13)::(true,14)::(true,15)::(true,16)::(true,17)::(true,18)::(true,19)::(true,20)::(true,21)::(true,22)::(true,23)::(true,24)::(true,25)::(true,26)::(true,27)::(true,28)::(true,29)::(true,30)::(true,31)::(true,32)::(true,33)::(true,34)::(true,35)::(true,36)::(true,37)::(true,38)::[]) (by kernel_rfl) (by kernel_rfl) HK1.out.drew ?_
                  apply ab_pure
                  · (apply kq; rfl)
                  · rfl
                  · (intro wS hS; go_simp; try exact rfl)
                  simp only [Act.put, z1, z2, z3]
                  apply ab_pure
                  · (apply kq; rfl)
                  · rfl
                  · (intro wS hS; have hc := cell_row (hS.get 0 rfl) (i := 0) (v := .string X) rfl; go_simp; try exact rfl)
                  simp only [Act.put, z1, z2, z3]
                  apply ab_call
                  · (apply kq; rfl)
                  · rfl
                  · (intro _; go_simp; first | exact ⟨rfl, rfl⟩ | exact rfl)
                  · (intro wS hS; exact HcR.out wS (HWS.out wS hS.below))
                  simp only [Act.put, z1, z2, z3]
                  apply ab_pure (v := .bool false)
                  · (apply kq; rfl)
                  · rfl
                  · (intro wS hS; go_simp; done)
                  simp only [Act.put, z1, z2, z3]
                  iterate 2
                   apply ab_pure
                   · (apply kq; rfl)
                   · rfl
                   · (intro wS hS; go_simp; try exact rfl)
                   simp only [Act.put, z1, z2, z3]
                  apply ab_pure (v := .bool true)
                  · (apply kq; rfl)
                  · rfl
                  · (intro wS hS; go_simp; done)
                  simp only [Act.put, z1, z2, z3]
                  iterate 3
                   apply ab_pure
                   · (apply kq; rfl)
                   · rfl
                   · (intro wS hS; go_simp; try exact rfl)
                   simp only [Act.put, z1, z2, z3]
                  apply ab_pure (v := .int .i64 (j : Int))
                  · (apply kq; rfl)
                  · rfl
                  · (intro wS hS; go_simp; done)
                  simp only [Act.put, z1, z2, z3]
                  iterate 2
                   apply ab_pure
                   · (apply kq; rfl)
                   · rfl
                   · (intro wS hS; go_simp; try exact rfl)
                   simp only [Act.put, z1, z2, z3]
                  apply ab_pure
                  · (apply kq; rfl)
                  · rfl
                  · (intro wS hS; have hc := HcP.out wS hS.below; go_simp; try exact rfl)
                  simp only [Act.put, z1, z2, z3]
                  apply ab_pure
                  · (apply kq; rfl)
                  · rfl
                  · (intro wS hS; go_simp; try exact rfl)
                  simp only [Act.put, z1, z2, z3]
                  apply ab_pure
                  · (apply kq; rfl)
                  · rfl
                  · (intro wS hS; have hc := cell_row (hS.get 0 rfl) (i := 0) (v := .string X) rfl; go_simp; try exact rfl)
                  simp only [Act.put, z1, z2, z3]
                  apply ab_call
                  · (apply kq; rfl)
                  · rfl
                  · (intro _; go_simp; first | exact ⟨rfl, rfl⟩ | exact rfl)
                  · (intro wS hS; exact HcC.out wS (HWS.out wS hS.below))
                  simp only [Act.put, z1, z2, z3]
                  apply ab_pure (v := .bool false)
                  · (apply kq; rfl)
                  · rfl
                  · (intro wS hS; go_simp; done)
                  simp only [Act.put, z1, z2, z3]
                  iterate 4
                   apply ab_pure
                   · (apply kq; rfl)
                   · rfl
                   · (intro wS hS; go_simp; try exact rfl)
                   simp only [Act.put, z1, z2, z3]
                  apply ab_pure
                  · (apply kq; rfl)
                  · rfl
                  · (intro wS hS; have hc := cell_row (hS.get 0 rfl) (i := 1) (v := .bool false) rfl; go_simp; try exact rfl)
                  simp only [Act.put, z1, z2, z3]
                  iterate 3
                   apply ab_pure
                   · (apply kq; rfl)
                   · rfl
                   · (intro wS hS; go_simp; try exact rfl)
                   simp only [Act.put, z1, z2, z3]
                  apply ab_pure
                  · (apply kq; rfl)
                  · rfl
                  · (intro wS hS; have hc := cell_row (hS.get 0 rfl) (i := 2) (v := .bool true) rfl; go_simp; try exact rfl)
                  simp only [Act.put, z1, z2, z3]
                  iterate 5
                   apply ab_pure
                   · (apply kq; rfl)
                   · rfl
                   · (intro wS hS; go_simp; try exact rfl)
                   simp only [Act.put, z1, z2, z3]
                  apply ab_pure
                  · (apply kq; rfl)
                  · rfl
                  · (intro wS hS; have hc := cell_row (hS.get 0 rfl) (i := 3) (v := .bool true) rfl; go_simp; try exact rfl)
                  simp only [Act.put, z1, z2, z3]
                  iterate 2
                   apply ab_pure
                   · (apply kq; rfl)
                   · rfl
                   · (intro wS hS; go_simp; try exact rfl)
                   simp only [Act.put, z1, z2, z3]
                  apply ab_pure
                  · (apply kq; rfl)
                  · rfl
                  · (intro wS hS; have hc := cell_row (hS.get 0 rfl) (i := 2) (v := .bool true) rfl; go_simp; try exact rfl)
                  simp only [Act.put, z1, z2, z3]
                  iterate 3
                   apply ab_pure
                   · (apply kq; rfl)
                   · rfl
                   · (intro wS hS; go_simp; try exact rfl)
                   simp only [Act.put, z1, z2, z3]
                  refine ab_end ?_
                  intro wE hE
                  have KE := Lib.hid hE
                  clear hE
                  go_wp2_with fail
                  go_meet
                  case rel => exact ⟨rfl, KE⟩
                | false =>
                  refine wp_region_abs qb wo [(qb, .cells #[.string X, .bool false, .bool true, .bool false] 80)] ((true,0)::(true,1)::(true,2)::(true,3)::(true,4)::(true,5)::(true,6)::(true,7)::(true,8)::(true,9)::(true,10)::(true,11)::(true,12)::(true,13)::(true,14)::(true,15)::(true,16)::(true,17)::(true,18)::(true,19)::(true,20)::(true,21)::(true,22)::(true,23)::(true,24)::(true,25)::(true,26)::(true,27)::(true,28)::(true,29)::(true,30)::(true,31)::(true,32)::(true,33)::(true,34)::(true,35)::(true,36)::(true,37)::(true,38)::[]) (by kernel_rfl) (by kernel_rfl) HK1.out.drew ?_
                  apply ab_pure
                  · (apply kq; rfl)
                  · rfl
                  · (intro wS hS; go_simp; try exact rfl)
                  simp only [Act.put, z1, z2, z3]
                  apply ab_pure
                  · (apply kq; rfl)
                  · rfl
                  · (intro wS hS; have hc := cell_row (hS.get 0 rfl) (i := 0) (v := .string X) rfl; go_simp; try exact rfl)
                  simp only [Act.put, z1, z2, z3]
                  apply ab_call
                  · (apply kq; rfl)
                  · rfl
                  · (intro _; go_simp; first | exact ⟨rfl, rfl⟩ | exact rfl)
                  · (intro wS hS; exact HcR.out wS (HWS.out wS hS.below))
                  simp only [Act.put, z1, z2, z3]
                  apply ab_pure (v := .bool false)
                  · (apply kq; rfl)
                  · rfl
                  · (intro wS hS; go_simp; done)
                  simp only [Act.put, z1, z2, z3]
                  iterate 2
                   apply ab_pure
                   · (apply kq; rfl)
                   · rfl
                   · (intro wS hS; go_simp; try exact rfl)
                   simp only [Act.put, z1, z2, z3]
                  apply ab_pure (v := .bool true)
                  · (apply kq; rfl)
                  · rfl
                  · (intro wS hS; go_simp; done)
                  simp only [Act.put, z1, z2, z3]
                  iterate 3
                   apply ab_pure
                   · (apply kq; rfl)
                   · rfl
                   · (intro wS hS; go_simp; try exact rfl)
                   simp only [Act.put, z1, z2, z3]
                  apply ab_pure (v := .int .i64 (j : Int))
                  · (apply kq; rfl)
                  · rfl
                  · (intro wS hS; go_simp; done)
                  simp only [Act.put, z1, z2, z3]
                  iterate 2
                   apply ab_pure
                   · (apply kq; rfl)
                   · rfl
                   · (intro wS hS; go_simp; try exact rfl)
                   simp only [Act.put, z1, z2, z3]
                  apply ab_pure
                  · (apply kq; rfl)
                  · rfl
                  · (intro wS hS; have hc := HcP.out wS hS.below; go_simp; try exact rfl)
                  simp only [Act.put, z1, z2, z3]
                  apply ab_pure
                  · (apply kq; rfl)
                  · rfl
                  · (intro wS hS; go_simp; try exact rfl)
                  simp only [Act.put, z1, z2, z3]
                  apply ab_pure
                  · (apply kq; rfl)
                  · rfl
                  · (intro wS hS; have hc := cell_row (hS.get 0 rfl) (i := 0) (v := .string X) rfl; go_simp; try exact rfl)
                  simp only [Act.put, z1, z2, z3]
                  apply ab_call
                  · (apply kq; rfl)
                  · rfl
                  · (intro _; go_simp; first | exact ⟨rfl, rfl⟩ | exact rfl)
                  · (intro wS hS; exact HcC.out wS (HWS.out wS hS.below))
                  simp only [Act.put, z1, z2, z3]
                  apply ab_pure (v := .bool false)
                  · (apply kq; rfl)
                  · rfl
                  · (intro wS hS; go_simp; done)
                  simp only [Act.put, z1, z2, z3]
                  iterate 4
                   apply ab_pure
                   · (apply kq; rfl)
                   · rfl
                   · (intro wS hS; go_simp; try exact rfl)
                   simp only [Act.put, z1, z2, z3]
                  apply ab_pure
                  · (apply kq; rfl)
                  · rfl
                  · (intro wS hS; have hc := cell_row (hS.get 0 rfl) (i := 1) (v := .bool false) rfl; go_simp; try exact rfl)
                  simp only [Act.put, z1, z2, z3]
                  iterate 3
                   apply ab_pure
                   · (apply kq; rfl)
                   · rfl
                   · (intro wS hS; go_simp; try exact rfl)
                   simp only [Act.put, z1, z2, z3]
                  apply ab_pure
                  · (apply kq; rfl)
                  · rfl
                  · (intro wS hS; have hc := cell_row (hS.get 0 rfl) (i := 2) (v := .bool true) rfl; go_simp; try exact rfl)
                  simp only [Act.put, z1, z2, z3]
                  iterate 5
                   apply ab_pure
                   · (apply kq; rfl)
                   · rfl
                   · (intro wS hS; go_simp; try exact rfl)
                   simp only [Act.put, z1, z2, z3]
                  apply ab_pure
                  · (apply kq; rfl)
                  · rfl
                  · (intro wS hS; have hc := cell_row (hS.get 0 rfl) (i := 3) (v := .bool false) rfl; go_simp; try exact rfl)
                  simp only [Act.put, z1, z2, z3]
                  apply ab_pure
                  · (apply kq; rfl)
                  · rfl
                  · (intro wS hS; go_simp; try exact rfl)
                  simp only [Act.put, z1, z2, z3]
                  iterate 3
                   apply ab_skip
                   · (apply kq; rfl)
                   · rfl
                   simp only [Act.put, z1, z2, z3]
                  iterate 2
                   apply ab_pure
                   · (apply kq; rfl)
                   · rfl
                   · (intro wS hS; go_simp; try exact rfl)
                   simp only [Act.put, z1, z2, z3]
                  refine ab_end ?_
                  intro wE hE
                  have KE := Lib.hid hE
                  clear hE
                  go_wp2_with fail
                  go_meet
                  case rel => exact ⟨rfl, KE⟩
              | false =>
                cases M with
                | true =>
                  exact absurd HhfD.out (by decide)
                | false =>
                  exact absurd HhfD.out (by decide)
          · have Hz : Hid (i = 0) := by show i = 0; omega
            clear Hhstep
            cases F with
            | true =>
              cases D with
              | true =>
                cases M with
                | true =>
                  refine wp_region_abs qb wo [(qb, .cells #[.string X, .bool true, .bool true, .bool true] 80)] ((true,0)::(true,1)::(true,2)::(true,3)::(true,4)::(true,5)::(true,6)::(true,7)::(true,8)::(true,9)::(true,10)::(true,11)::(true,12)::(true,13)::(true,14)::(true,15)::(true,16)::(true,17)::(true,18)::(true,19)::(true,20)::(true,21)::(true,22)::(true,23)::(true,24)::(true,25)::(true,26)::(true,27)::(true,28)::(true,29)::(true,30)::(true,31)::(true,32)::(true,33)::(true,34)::(true,35)::(true,36)::(true,37)::(true,38)::[]) (by kernel_rfl) (by kernel_rfl) HK1.out.drew ?_
                  apply ab_pure
                  · (apply kq; rfl)
                  · rfl
                  · (intro wS hS; go_simp; try exact rfl)
                  simp only [Act.put, z1, z2, z3]
                  apply ab_pure
                  · (apply kq; rfl)
                  · rfl
                  · (intro wS hS; have hc := cell_row (hS.get 0 rfl) (i := 0) (v := .string X) rfl; go_simp; try exact rfl)
                  simp only [Act.put, z1, z2, z3]
                  apply ab_call
                  · (apply kq; rfl)
                  · rfl
                  · (intro _; go_simp; first | exact ⟨rfl, rfl⟩ | exact rfl)
                  · (intro wS hS; exact HcR.out wS (HWS.out wS hS.below))
                  simp only [Act.put, z1, z2, z3]
                  apply ab_pure (v := .bool false)
                  · (apply kq; rfl)
                  · rfl
                  · (intro wS hS; go_simp; done)
                  simp only [Act.put, z1, z2, z3]
                  iterate 2
                   apply ab_pure
                   · (apply kq; rfl)
                   · rfl
                   · (intro wS hS; go_simp; try exact rfl)
                   simp only [Act.put, z1, z2, z3]
                  apply ab_pure (v := .bool false)
                  · (apply kq; rfl)
                  · rfl
                  · (intro wS hS; go_simp; exact Hz.out)
                  simp only [Act.put, z1, z2, z3]
                  apply ab_pure
                  · (apply kq; rfl)
                  · rfl
                  · (intro wS hS; go_simp; try exact rfl)
                  simp only [Act.put, z1, z2, z3]
                  iterate 10
                   apply ab_skip
                   · (apply kq; rfl)
                   · rfl
                   simp only [Act.put, z1, z2, z3]
                  iterate 4
                   apply ab_pure
                   · (apply kq; rfl)
                   · rfl
                   · (intro wS hS; go_simp; try exact rfl)
                   simp only [Act.put, z1, z2, z3]
                  apply ab_pure
                  · (apply kq; rfl)
                  · rfl
                  · (intro wS hS; have hc := cell_row (hS.get 0 rfl) (i := 1) (v := .bool true) rfl; go_simp; try exact rfl)
                  simp only [Act.put, z1, z2, z3]
                  iterate 2
                   apply ab_pure
                   · (apply kq; rfl)
                   · rfl
                   · (intro wS hS; go_simp; try exact rfl)
                   simp only [Act.put, z1, z2, z3]
                  iterate 3
                   apply ab_skip
                   · (apply kq; rfl)
                   · rfl
                   simp only [Act.put, z1, z2, z3]
                  iterate 4
                   apply ab_pure
                   · (apply kq; rfl)
                   · rfl
                   · (intro wS hS; go_simp; try exact rfl)
                   simp only [Act.put, z1, z2, z3]
                  apply ab_pure
                  · (apply kq; rfl)
                  · rfl
                  · (intro wS hS; have hc := cell_row (hS.get 0 rfl) (i := 3) (v := .bool true) rfl; go_simp; try exact rfl)
                  simp only [Act.put, z1, z2, z3]
                  iterate 2
                   apply ab_pure
                   · (apply kq; rfl)
                   · rfl
                   · (intro wS hS; go_simp; try exact rfl)
                   simp only [Act.put, z1, z2, z3]
                  apply ab_pure
                  · (apply kq; rfl)
                  · rfl
                  · (intro wS hS; have hc := cell_row (hS.get 0 rfl) (i := 2) (v := .bool true) rfl; go_simp; try exact rfl)
                  simp only [Act.put, z1, z2, z3]
                  iterate 3
                   apply ab_pure
                   · (apply kq; rfl)
                   · rfl
                   · (intro wS hS; go_simp; try exact rfl)
                   simp only [Act.put, z1, z2, z3]
                  refine ab_end ?_
                  intro wE hE
                  have KE := Lib.hid hE
                  clear hE
                  go_wp2_with fail
                  go_meet
                  case rel => exact ⟨rfl, KE⟩
                | false =>
                  refine wp_region_abs qb wo [(qb, .cells #[.string X, .bool true, .bool true, .bool false] 80)] ((true,0)::(true,1)::(true,2)::(true,3)::(true,4)::(true,5)::(true,6)::(true,7)::(true,8)::(true,9)::(true,10)::(true,11)::(true,12)::(true,13)::(true,14)::(true,15)::(true,16)::(true,17)::(true,18)::(true,19)::(true,20)::(true,21)::(true,22)::(true,23)::(true,24)::(true,25)::(true,26)::(true,27)::(true,28)::(true,29)::(true,30)::(true,31)::(true,32)::(true,33)::(true,34)::(true,35)::(true,36)::(true,37)::(true,38)::[]) (by kernel_rfl) (by kernel_rfl) HK1.out.drew ?_
                  apply ab_pure
                  · (apply kq; rfl)
                  · rfl
                  · (intro wS hS; go_simp; try exact rfl)
                  simp only [Act.put, z1, z2, z3]
                  apply ab_pure
                  · (apply kq; rfl)
                  · rfl
                  · (intro wS hS; have hc := cell_row (hS.get 0 rfl) (i := 0) (v := .string X) rfl; go_simp; try exact rfl)
                  simp only [Act.put, z1, z2, z3]
                  apply ab_call
                  · (apply kq; rfl)
                  · rfl
                  · (intro _; go_simp; first | exact ⟨rfl, rfl⟩ | exact rfl)
                  · (intro wS hS; exact HcR.out wS (HWS.out wS hS.below))
                  simp only [Act.put, z1, z2, z3]
                  apply ab_pure (v := .bool false)
                  · (apply kq; rfl)
                  · rfl
                  · (intro wS hS; go_simp; done)
                  simp only [Act.put, z1, z2, z3]
                  iterate 2
                   apply ab_pure
                   · (apply kq; rfl)
                   · rfl
                   · (intro wS hS; go_simp; try exact rfl)
                   simp only [Act.put, z1, z2, z3]
                  apply ab_pure (v := .bool false)
                  · (apply kq; rfl)
                  · rfl
                  · (intro wS hS; go_simp; exact Hz.out)
                  simp only [Act.put, z1, z2, z3]
                  apply ab_pure
                  · (apply kq; rfl)
                  · rfl
                  · (intro wS hS; go_simp; try exact rfl)
                  simp only [Act.put, z1, z2, z3]
                  iterate 10
                   apply ab_skip
                   · (apply kq; rfl)
                   · rfl
                   simp only [Act.put, z1, z2, z3]
                  iterate 4
                   apply ab_pure
                   · (apply kq; rfl)
                   · rfl
                   · (intro wS hS; go_simp; try exact rfl)
                   simp only [Act.put, z1, z2, z3]
                  apply ab_pure
                  · (apply kq; rfl)
                  · rfl
                  · (intro wS hS; have hc := cell_row (hS.get 0 rfl) (i := 1) (v := .bool true) rfl; go_simp; try exact rfl)
                  simp only [Act.put, z1, z2, z3]
                  iterate 2
                   apply ab_pure
                   · (apply kq; rfl)
                   · rfl
                   · (intro wS hS; go_simp; try exact rfl)
                   simp only [Act.put, z1, z2, z3]
                  iterate 3
                   apply ab_skip
                   · (apply kq; rfl)
                   · rfl
                   simp only [Act.put, z1, z2, z3]
                  iterate 4
                   apply ab_pure
                   · (apply kq; rfl)
                   · rfl
                   · (intro wS hS; go_simp; try exact rfl)
                   simp only [Act.put, z1, z2, z3]
                  apply ab_pure
                  · (apply kq; rfl)
                  · rfl
                  · (intro wS hS; have hc := cell_row (hS.get 0 rfl) (i := 3) (v := .bool false) rfl; go_simp; try exact rfl)
                  simp only [Act.put, z1, z2, z3]
                  apply ab_pure
                  · (apply kq; rfl)
                  · rfl
                  · (intro wS hS; go_simp; try exact rfl)
                  simp only [Act.put, z1, z2, z3]
                  iterate 3
                   apply ab_skip
                   · (apply kq; rfl)
                   · rfl
                   simp only [Act.put, z1, z2, z3]
                  iterate 2
                   apply ab_pure
                   · (apply kq; rfl)
                   · rfl
                   · (intro wS hS; go_simp; try exact rfl)
                   simp only [Act.put, z1, z2, z3]
                  refine ab_end ?_
                  intro wE hE
                  have KE := Lib.hid hE
                  clear hE
                  go_wp2_with fail
                  go_meet
                  case rel => exact ⟨rfl, KE⟩
              | false =>
                cases M with
                | true =>
                  exact absurd (HhmD.out rfl) (by decide)
                | false =>
                  refine wp_region_abs qb wo [(qb, .cells #[.string X, .bool true, .bool false, .bool false] 80)] ((true,0)::(true,1)::(true,2)::(true,3)::(true,4)::(true,5)::(true,6)::(true,7)::(true,8)::(true,9)::(true,10)::(true,11)::(true,12)::(true,13)::(true,14)::(true,15)::(true,16)::(true,17)::(true,18)::(true,19)::(true,20)::(true,21)::(true,22)::(true,23)::(true,24)::(true,25)::(true,26)::(true,27)::(true,28)::(true,29)::(true,30)::(true,31)::(true,32)::(true,33)::(true,34)::(true,35)::(true,36)::(true,37)::(true,38)::[]) (by kernel_rfl) (by kernel_rfl) HK1.out.drew ?_
                  apply ab_pure
                  · (apply kq; rfl)
                  · rfl
                  · (intro wS hS; go_simp; try exact rfl)
                  simp only [Act.put, z1, z2, z3]
                  apply ab_pure
                  · (apply kq; rfl)
                  · rfl
                  · (intro wS hS; have hc := cell_row (hS.get 0 rfl) (i := 0) (v := .string X) rfl; go_simp; try exact rfl)
                  simp only [Act.put, z1, z2, z3]
                  apply ab_call
                  · (apply kq; rfl)
                  · rfl
                  · (intro _; go_simp; first | exact ⟨rfl, rfl⟩ | exact rfl)
                  · (intro wS hS; exact HcR.out wS (HWS.out wS hS.below))
                  simp only [Act.put, z1, z2, z3]
                  apply ab_pure (v := .bool false)
                  · (apply kq; rfl)
                  · rfl
                  · (intro wS hS; go_simp; done)
                  simp only [Act.put, z1, z2, z3]
                  iterate 2
                   apply ab_pure
                   · (apply kq; rfl)
                   · rfl
                   · (intro wS hS; go_simp; try exact rfl)
                   simp only [Act.put, z1, z2, z3]
                  apply ab_pure (v := .bool false)
                  · (apply kq; rfl)
                  · rfl
                  · (intro wS hS; go_simp; exact Hz.out)
                  simp only [Act.put, z1, z2, z3]
                  apply ab_pure
                  · (apply kq; rfl)
                  · rfl
                  · (intro wS hS; go_simp; try exact rfl)
                  simp only [Act.put, z1, z2, z3]
                  iterate 10
                   apply ab_skip
                   · (apply kq; rfl)
                   · rfl
                   simp only [Act.put, z1, z2, z3]
                  iterate 4
                   apply ab_pure
                   · (apply kq; rfl)
                   · rfl
                   · (intro wS hS; go_simp; try exact rfl)
                   simp only [Act.put, z1, z2, z3]
                  apply ab_pure
                  · (apply kq; rfl)
                  · rfl
                  · (intro wS hS; have hc := cell_row (hS.get 0 rfl) (i := 1) (v := .bool true) rfl; go_simp; try exact rfl)
                  simp only [Act.put, z1, z2, z3]
                  iterate 2
                   apply ab_pure
                   · (apply kq; rfl)
                   · rfl
                   · (intro wS hS; go_simp; try exact rfl)
                   simp only [Act.put, z1, z2, z3]
                  iterate 3
                   apply ab_skip
                   · (apply kq; rfl)
                   · rfl
                   simp only [Act.put, z1, z2, z3]
                  iterate 4
                   apply ab_pure
                   · (apply kq; rfl)
                   · rfl
                   · (intro wS hS; go_simp; try exact rfl)
                   simp only [Act.put, z1, z2, z3]
                  apply ab_pure
                  · (apply kq; rfl)
                  · rfl
                  · (intro wS hS; have hc := cell_row (hS.get 0 rfl) (i := 3) (v := .bool false) rfl; go_simp; try exact rfl)
                  simp only [Act.put, z1, z2, z3]
                  apply ab_pure
                  · (apply kq; rfl)
                  · rfl
                  · (intro wS hS; go_simp; try exact rfl)
                  simp only [Act.put, z1, z2, z3]
                  iterate 3
                   apply ab_skip
                   · (apply kq; rfl)
                   · rfl
                   simp only [Act.put, z1, z2, z3]
                  iterate 2
                   apply ab_pure
                   · (apply kq; rfl)
                   · rfl
                   · (intro wS hS; go_simp; try exact rfl)
                   simp only [Act.put, z1, z2, z3]
                  refine ab_end ?_
                  intro wE hE
                  have KE := Lib.hid hE
                  clear hE
                  go_wp2_with fail
                  go_meet
                  case rel => exact ⟨rfl, KE⟩
            | false =>
              cases D with
              | true =>
                cases M with
                | true =>
                  refine wp_region_abs qb wo [(qb, .cells #[.string X, .bool false, .bool true, .bool true] 80)] ((true,0)::(true,1)::(true,2)::(true,3)::(true,4)::(true,5)::(true,6)::(true,7)::(true,8)::(true,9)::(true,10)::(true,11)::(true,12)::(true,13)::(true,14)::(true,15)::(true,16)::(true,17)::(true,18)::(true,19)::(true,20)::(true,21)::(true,22)::(true,23)::(true,24)::(true,25)::(true,26)::(true,27)::(true,28)::(true,29)::(true,30)::(true,31)::(true,32)::(true,33)::(true,34)::(true,35)::(true,36)::(true,37)::(true,38)::[]) (by kernel_rfl) (by kernel_rfl) HK1.out.drew ?_
                  apply ab_pure
                  · (apply kq; rfl)
                  · rfl
                  · (intro wS hS; go_simp; try exact rfl)
                  simp only [Act.put, z1, z2, z3]
                  apply ab_pure
                  · (apply kq; rfl)
                  · rfl
                  · (intro wS hS; have hc := cell_row (hS.get 0 rfl) (i := 0) (v := .string X) rfl; go_simp; try exact rfl)
                  simp only [Act.put, z1, z2, z3]
                  apply ab_call
                  · (apply kq; rfl)
                  · rfl
                  · (intro _; go_simp; first | exact ⟨rfl, rfl⟩ | exact rfl)
                  · (intro wS hS; exact HcR.out wS (HWS.out wS hS.below))
                  simp only [Act.put, z1, z2, z3]
                  apply ab_pure (v := .bool false)
                  · (apply kq; rfl)
                  · rfl
                  · (intro wS hS; go_simp; done)
                  simp only [Act.put, z1, z2, z3]
                  iterate 2
                   apply ab_pure
                   · (apply kq; rfl)
                   · rfl
                   · (intro wS hS; go_simp; try exact rfl)
                   simp only [Act.put, z1, z2, z3]
                  apply ab_pure (v := .bool false)
                  · (apply kq; rfl)
                  · rfl
                  · (intro wS hS; go_simp; exact Hz.out)
                  simp only [Act.put, z1, z2, z3]
                  apply ab_pure
                  · (apply kq; rfl)
                  · rfl
                  · (intro wS hS; go_simp; try exact rfl)
                  simp only [Act.put, z1, z2, z3]
                  iterate 10
                   apply ab_skip
                   · (apply kq; rfl)
                   · rfl
                   simp only [Act.put, z1, z2, z3]
                  iterate 4
                   apply ab_pure
                   · (apply kq; rfl)
                   · rfl
                   · (intro wS hS; go_simp; try exact rfl)
                   simp only [Act.put, z1, z2, z3]
                  apply ab_pure
                  · (apply kq; rfl)
                  · rfl
                  · (intro wS hS; have hc := cell_row (hS.get 0 rfl) (i := 1) (v := .bool false) rfl; go_simp; try exact rfl)
                  simp only [Act.put, z1, z2, z3]
                  iterate 3
                   apply ab_pure
                   · (apply kq; rfl)
                   · rfl
                   · (intro wS hS; go_simp; try exact rfl)
                   simp only [Act.put, z1, z2, z3]
                  apply ab_pure
                  · (apply kq; rfl)
                  · rfl
                  · (intro wS hS; have hc := cell_row (hS.get 0 rfl) (i := 2) (v := .bool true) rfl; go_simp; try exact rfl)
                  simp only [Act.put, z1, z2, z3]
                  iterate 5
                   apply ab_pure
                   · (apply kq; rfl)
                   · rfl
                   · (intro wS hS; go_simp; try exact rfl)
                   simp only [Act.put, z1, z2, z3]
                  apply ab_pure
                  · (apply kq; rfl)
                  · rfl
                  · (intro wS hS; have hc := cell_row (hS.get 0 rfl) (i := 3) (v := .bool true) rfl; go_simp; try exact rfl)
                  simp only [Act.put, z1, z2, z3]
                  iterate 2
                   apply ab_pure
                   · (apply kq; rfl)
                   · rfl
                   · (intro wS hS; go_simp; try exact rfl)
                   simp only [Act.put, z1, z2, z3]
                  apply ab_pure
                  · (apply kq; rfl)
                  · rfl
                  · (intro wS hS; have hc := cell_row (hS.get 0 rfl) (i := 2) (v := .bool true) rfl; go_simp; try exact rfl)
                  simp only [Act.put, z1, z2, z3]
                  iterate 3
                   apply ab_pure
                   · (apply kq; rfl)
                   · rfl
                   · (intro wS hS; go_simp; try exact rfl)
                   simp only [Act.put, z1, z2, z3]
                  refine ab_end ?_
                  intro wE hE
                  have KE := Lib.hid hE
                  clear hE
                  go_wp2_with fail
                  go_meet
                  case rel => exact ⟨rfl, KE⟩
                | false =>
                  refine wp_region_abs qb wo [(qb, .cells #[.string X, .bool false, .bool true, .bool false] 80)] ((true,0)::(true,1)::(true,2)::(true,3)::(true,4)::(true,5)::(true,6)::(true,7)::(true,8)::(true,9)::(true,10)::(true,11)::(true,12)::(true,13)::(true,14)::(true,15)::(true,16)::(true,17)::(true,18)::(true,19)::(true,20)::(true,21)::(true,22)::(true,23)::(true,24)::(true,25)::(true,26)::(true,27)::(true,28)::(true,29)::(true,30)::(true,31)::(true,32)::(true,33)::(true,34)::(true,35)::(true,36)::(true,37)::(true,38)::[]) (by kernel_rfl) (by kernel_rfl) HK1.out.drew ?_
                  apply ab_pure
                  · (apply kq; rfl)
                  · rfl
                  · (intro wS hS; go_simp; try exact rfl)
                  simp only [Act.put, z1, z2, z3]
                  apply ab_pure
                  · (apply kq; rfl)
                  · rfl
                  · (intro wS hS; have hc := cell_row (hS.get 0 rfl) (i := 0) (v := .string X) rfl; go_simp; try exact rfl)
                  simp only [Act.put, z1, z2, z3]
                  apply ab_call
                  · (apply kq; rfl)
                  · rfl
                  · (intro _; go_simp; first | exact ⟨rfl, rfl⟩ | exact rfl)
                  · (intro wS hS; exact HcR.out wS (HWS.out wS hS.below))
                  simp only [Act.put, z1, z2, z3]
                  apply ab_pure (v := .bool false)
                  · (apply kq; rfl)
                  · rfl
                  · (intro wS hS; go_simp; done)
                  simp only [Act.put, z1, z2, z3]
                  iterate 2
                   apply ab_pure
                   · (apply kq; rfl)
                   · rfl
                   · (intro wS hS; go_simp; try exact rfl)
                   simp only [Act.put, z1, z2, z3]
                  apply ab_pure (v := .bool false)
                  · (apply kq; rfl)
                  · rfl
                  · (intro wS hS; go_simp; exact Hz.out)
                  simp only [Act.put, z1, z2, z3]
                  apply ab_pure
                  · (apply kq; rfl)
                  · rfl
                  · (intro wS hS; go_simp; try exact rfl)
                  simp only [Act.put, z1, z2, z3]
                  iterate 10
                   apply ab_skip
                   · (apply kq; rfl)
                   · rfl
                   simp only [Act.put, z1, z2, z3]
                  iterate 4
                   apply ab_pure
                   · (apply kq; rfl)
                   · rfl
                   · (intro wS hS; go_simp; try exact rfl)
                   simp only [Act.put, z1, z2, z3]
                  apply ab_pure
                  · (apply kq; rfl)
                  · rfl
                  · (intro wS hS; have hc := cell_row (hS.get 0 rfl) (i := 1) (v := .bool false) rfl; go_simp; try exact rfl)
                  simp only [Act.put, z1, z2, z3]
                  iterate 3
                   apply ab_pure
                   · (apply kq; rfl)
                   · rfl
                   · (intro wS hS; go_simp; try exact rfl)
                   simp only [Act.put, z1, z2, z3]
                  apply ab_pure
                  · (apply kq; rfl)
                  · rfl
                  · (intro wS hS; have hc := cell_row (hS.get 0 rfl) (i := 2) (v := .bool true) rfl; go_simp; try exact rfl)
                  simp only [Act.put, z1, z2, z3]
                  iterate 5
                   apply ab_pure
                   · (apply kq; rfl)
                   · rfl
                   · (intro wS hS; go_simp; try exact rfl)
                   simp only [Act.put, z1, z2, z3]
                  apply ab_pure
                  · (apply kq; rfl)
                  · rfl
                  · (intro wS hS; have hc := cell_row (hS.get 0 rfl) (i := 3) (v := .bool false) rfl; go_simp; try exact rfl)
                  simp only [Act.put, z1, z2, z3]
                  apply ab_pure
                  · (apply kq; rfl)
                  · rfl
                  · (intro wS hS; go_simp; try exact rfl)
                  simp only [Act.put, z1, z2, z3]
                  iterate 3
                   apply ab_skip
                   · (apply kq; rfl)
                   · rfl
                   simp only [Act.put, z1, z2, z3]
                  iterate 2
                   apply ab_pure
                   · (apply kq; rfl)
                   · rfl
                   · (intro wS hS; go_simp; try exact rfl)
                   simp only [Act.put, z1, z2, z3]
                  refine ab_end ?_
                  intro wE hE
                  have KE := Lib.hid hE
                  clear hE
                  go_wp2_with fail
                  go_meet
                  case rel => exact ⟨rfl, KE⟩
              | false =>
                cases M with
                | true =>
                  exact absurd HhfD.out (by decide)
                | false =>
                  exact absurd HhfD.out (by decide)
        case rest =>
          obtain ⟨rfl, HK2⟩ := hcut
          clear HK1 Hhstep HcR HhfD HhmD
          go_upto_region 12 with fail
          go_cut [6] (fun v wx => v = .bool nW ∧ Hid (Kn qb wo [(qb, .cells #[.string X, .bool F, .bool D, .bool M] 80)] wx))
          case first =>
            have hwr1 := IntWalk.i64_in ((i : Int) + 1) (by omega)
            by_cases hnx : (i : Int) + 1 < (m : Int)
            · obtain ⟨Xn, hcn, hcw⟩ := Hhnext.out (by rw [← Hhm.out]; omega)
              have HcN := Lib.hid (fun wS (h : Below qb wo wS) => (h.cell (p := ⟨g, (i + 1) * 4, none⟩) hgo).trans hcn)
              have HcW := Lib.hid hcw
              clear hcn hcw Hhnext
              refine wp_region_abs qb wo [(qb, .cells #[.string X, .bool F, .bool D, .bool M] 80)] ((true,0)::(true,1)::(true,2)::(true,3)::(true,4)::(true,5)::(true,6)::(true,7)::(true,8)::(true,9)::(true,10)::(true,11)::(true,12)::(true,13)::(true,14)::(true,15)::(false,16)::[]) (by kernel_rfl) (by kernel_rfl) HK2.out.drew ?_
              iterate 4
               apply ab_pure
               · (apply kq; rfl)
               · rfl
               · (intro wS hS; go_simp; try exact rfl)
               simp only [Act.put, z1, z2, z3]
              apply ab_pure (v := .bool true)
              · (apply kq; rfl)
              · rfl
              · (intro wS hS; go_simp; done)
              simp only [Act.put, z1, z2, z3]
              iterate 6
               apply ab_pure
               · (apply kq; rfl)
               · rfl
               · (intro wS hS; go_simp; try exact rfl)
               simp only [Act.put, z1, z2, z3]
              apply ab_pure
              · (apply kq; rfl)
              · rfl
              · (intro wS hS; have hc := HcN.out wS hS.below; go_simp; try exact rfl)
              simp only [Act.put, z1, z2, z3]
              apply ab_pure
              · (apply kq; rfl)
              · rfl
              · (intro wS hS; go_simp; try exact rfl)
              simp only [Act.put, z1, z2, z3]
              apply ab_pure
              · (apply kq; rfl)
              · rfl
              · (intro wS hS; have hc := cell_row (hS.get 0 rfl) (i := 0) (v := .string X) rfl; go_simp; try exact rfl)
              simp only [Act.put, z1, z2, z3]
              apply ab_call
              · (apply kq; rfl)
              · rfl
              · (intro _; go_simp; first | exact ⟨rfl, rfl⟩ | exact rfl)
              · (intro wS hS; exact HcW.out wS)
              simp only [Act.put, z1, z2, z3]
              apply ab_pure
              · (apply kq; rfl)
              · rfl
              · (intro wS hS; go_simp; try exact rfl)
              simp only [Act.put, z1, z2, z3]
              (apply ab_loud
               · (apply kq; rfl)
               · rfl
               intro wS hS
               go_wp2_with fail)
              refine ⟨_, ?_, hS, ab_end ?_⟩
              · first | exact .inr (fun x hx => hx) | exact .inl (by kernel_rfl) | simp
              intro wE hE
              have KE := Lib.hid hE
              clear hE
              go_wp2_with fail
              go_meet
              case rel => exact ⟨rfl, KE⟩
            · have HnW : Hid (nW = false) := HhnWno.out (by rw [← Hhm.out]; omega)
              clear Hhnext
              refine wp_region_abs qb wo [(qb, .cells #[.string X, .bool F, .bool D, .bool M] 80)] ((true,0)::(true,1)::(true,2)::(true,3)::(true,4)::(true,5)::(true,6)::(true,7)::(true,8)::(true,9)::(true,10)::(true,11)::(true,12)::(true,13)::(true,14)::(true,15)::(false,16)::[]) (by kernel_rfl) (by kernel_rfl) HK2.out.drew ?_
              iterate 4
               apply ab_pure
               · (apply kq; rfl)
               · rfl
               · (intro wS hS; go_simp; try exact rfl)
               simp only [Act.put, z1, z2, z3]
              apply ab_pure (v := .bool false)
              · (apply kq; rfl)
              · rfl
              · (intro wS hS; go_simp; done)
              simp only [Act.put, z1, z2, z3]
              apply ab_pure
              · (apply kq; rfl)
              · rfl
              · (intro wS hS; go_simp; try exact rfl)
              simp only [Act.put, z1, z2, z3]
              iterate 9
               apply ab_skip
               · (apply kq; rfl)
               · rfl
               simp only [Act.put, z1, z2, z3]
              apply ab_pure
              · (apply kq; rfl)
              · rfl
              · (intro wS hS; go_simp; try exact rfl)
              simp only [Act.put, z1, z2, z3]
              (apply ab_loud
               · (apply kq; rfl)
               · rfl
               intro wS hS
               go_wp2_with fail)
              refine ⟨_, ?_, hS, ab_end ?_⟩
              · first | exact .inr (fun x hx => hx) | exact .inl (by kernel_rfl) | simp
              intro wE hE
              have KE := Lib.hid hE
              clear hE
              go_wp2_with fail
              go_meet
              case rel => exact ⟨by rw [HnW.out], KE⟩
          case rest =>
            obtain ⟨rfl, HK3⟩ := hcut
            clear HK2 Hhnext HhnWno
            have hcD := cell_row (HK3.out.get 0 rfl) (i := 2) (v := .bool D) rfl
            have hcM := cell_row (HK3.out.get 0 rfl) (i := 3) (v := .bool M) rfl
            go_upto_region 13 with fail
            go_cut [92] (fun v wx => v = .bool false ∧ Hid (Kn qb wo [(qb, .cells #[.string X, .bool F, .bool D, .bool M] 80)] wx))
            case first =>
              have hnD := HhnD.out
              cases M with
              | true =>
                simp only [Bool.true_or] at hnD
                subst hnD
                go_wp2_with fail
                go_meet
                case rel => exact ⟨rfl, HK3⟩
              | false =>
                simp only [Bool.false_or] at hnD
                subst hnD
                go_wp2_with fail
                go_meet
                case rel => exact ⟨rfl, HK3⟩
            case rest =>
              obtain ⟨rfl, HK4⟩ := hcut
              clear HK3 hcD hcM HhnD
              have hcX := cell_row (HK4.out.get 0 rfl) (i := 0) (v := .string X) rfl
              go_wp2_with fail
              refine (HcO.out _ (HWS.out _ HK4.out.below)).mono ?_
              rintro e w8 ⟨rfl, b8⟩
              have HK5 := Lib.hid (HK4.out.call b8)
              clear b8 hcX HK4
              go_wp2_with fail
              go_loopw [9, 10] (fun th tv wq => ∃ t : Nat, t ≤ n ∧ th = .bool ((ks.take t).any fun z => z == Km.esc x) ∧ tv = .int .i64 (t : Int) ∧ Hid (Kn qb wo [(qb, .cells #[.string X, .bool F, .bool D, .bool M] 80)] wq)) (fun _ tv _ => n - (intOf tv).toNat)
              case atStart => exact ⟨0, by omega, rfl, rfl, HK5⟩
              case round =>
                obtain ⟨t, ht, rfl, rfl, HK⟩ := hrel
                have hbt : (0 : Int) ≤ t := by omega
                by_cases htn : t < n
                · obtain ⟨b', off', hA', hcn', hbb', hcell'⟩ := Hhrd.out.at_ htn
                  have htl : t < ks.length := by rw [← Hhn.out]; exact htn
                  have hT := List.take_append_getElem htl
                  obtain ⟨k, hk⟩ : ∃ k, k = ks[t] := ⟨_, rfl⟩
                  have hc1 := hcell' t _ (pv_get ks t htl)
                  rw [← hk] at hc1 hT
                  replace hc1 := ((HWS.out _ HK.out.below).cell (p := ⟨b', off' + t, none⟩) hbb').trans hc1
                  have hstep := any_step ks (Km.esc x) t k hT
                  obtain ⟨Y, hY⟩ : ∃ Y, Y = tk k := ⟨_, rfl⟩
                  rw [show (⟨k.toArray⟩ : ByteArray) = Y from hY.symm] at hc1
                  have heq : (Y.toList == EX.toList) = (k == Km.esc x) := by rw [hY, HhEX.out, tk_list, tk_list]
                  obtain ⟨q, hq⟩ : ∃ q, q = (k == Km.esc x) := ⟨_, rfl⟩
                  obtain ⟨B, hB⟩ : ∃ B, B = (ks.take t).any fun z => z == Km.esc x := ⟨_, rfl⟩
                  rw [← hq] at heq hstep
                  rw [← hB] at hstep ⊢
                  have htI : (t : Int) < n := by omega
                  subst hA'
                  have Hhstep := Lib.hid hstep
                  clear hstep
                  clear hcell' hT hk hY hq hB
                  cases B with
                  | true =>
                    go_wp2_with fail
                    go_roundw
                    case rel => exact ⟨t + 1, by omega, by rw [Hhstep.out]; rfl, by go_num, HK⟩
                    case measure => simp [intOf]; omega
                  | false =>
                    go_wp2_with fail
                    go_roundw
                    case rel => exact ⟨t + 1, by omega, by rw [Hhstep.out]; rfl, by go_num, HK⟩
                    case measure => simp [intOf]; omega
                · obtain rfl : t = n := by omega
                  have htI : ¬ (t : Int) < t := by omega
                  have hTk : ks.take t = ks := by rw [Hhn.out, List.take_length]
                  rw [hTk, ← Hhfile.out]
                  have hcF := cell_row (HK.out.get 0 rfl) (i := 1) (v := .bool F) rfl
                  have HB2 := Lib.hid (HB.out.trans (HK.out.below.mono (by rw [Hqb.out]; exact HB.out.size)))
                  clear HK hTk
                  go_wp2_with fail
                  exact ⟨⟨i + 1, by omega, by go_num, HB2⟩, by simp [intOf]; omega⟩
      · obtain rfl : i = m := by omega
        have hbn : ¬ (i : Int) < i := by omega
        go_wp2_with fail
        go_ret
        exact ⟨rfl, Hb4.out.trans (HB.out.mono Hb4.out.size)⟩
end Go.Proofs.YtidmjepfpjfkoaaDoor
