/-
  Walks: digests composed.
-/
import Derived.Test.YtgdjfijkbemkeaaEtC
import Derived.Test.YtgdjfijkbemkeaaShaK
import Derived.Test.YtgdjfijkbemkeaaShaQ
import Derived.Test.YtgdjfijkbemkeaaMy
import Derived.Test.YtgdjfijkbemkeaaAb
namespace Go.Proofs.Ytgdjfijkbemkeaa
open Go.RowKit
set_option maxHeartbeats 2000000
set_option maxRecDepth 20000
set_option linter.unusedVariables false

/-- a slice of digests that is read -/
def RdD (v : Value) (ds : List (List UInt8)) (B : Nat) (w : World) : Prop :=
  (v = .slice none 0 0 ∧ ds = []) ∨ ∃ (ad : Addr) (c : Nat), v = .slice (some ad) ds.length c ∧ ds.length ≤ c ∧
    (ds = [] ∨ ∃ b off, ad = ⟨b, off, none⟩ ∧ b < B ∧ ∀ i (h : i < ds.length), w.rangeAt b (off + i * 32) (dArr ds[i]).toList)
theorem RdD.below {v : Value} {ds : List (List UInt8)} {B : Nat} {w w' : World} (h : RdD v ds B w) (hb : Below B w w') : RdD v ds B w' :=
  h.imp id fun ⟨ad, c, h1, h2, h3⟩ => ⟨ad, c, h1, h2, h3.imp id fun ⟨b, off, h4, h5, h6⟩ => ⟨b, off, h4, h5, fun i hi j u hj => (hb.cell (p := ⟨b, _, none⟩) h5).trans (h6 i hi j u hj)⟩⟩
theorem RdD.mono {v : Value} {ds : List (List UInt8)} {B B' : Nat} {w : World} (h : RdD v ds B w) (hB : B ≤ B') : RdD v ds B' w :=
  h.imp id fun ⟨ad, c, h1, h2, h3⟩ => ⟨ad, c, h1, h2, h3.imp id fun ⟨b, off, h4, h5, h6⟩ => ⟨b, off, h4, by omega, h6⟩⟩
theorem RdD.slice {v : Value} {ds : List (List UInt8)} {B : Nat} {w : World} (h : RdD v ds B w) : ∃ A c, v = .slice A ds.length c := by
  rcases h with ⟨rfl, rfl⟩ | ⟨ad, c, rfl, _⟩
  · exact ⟨none, 0, rfl⟩
  · exact ⟨some ad, c, rfl⟩
theorem RdD.at_ {A : Option Addr} {n c B : Nat} {ds : List (List UInt8)} {w : World} (h : RdD (.slice A n c) ds B w) {i : Nat} (hi : i < ds.length) :
    ∃ b off, A = some ⟨b, off, none⟩ ∧ ds.length ≤ c ∧ b < B ∧ w.rangeAt b (off + i * 32) (dArr ds[i]).toList := by
  rcases h with ⟨_, rfl⟩ | ⟨ad, c', h, h2, h3⟩
  · exact absurd hi (by simp)
  · cases h
    rcases h3 with rfl | ⟨b, off, rfl, hb, hr⟩
    · exact absurd hi (by simp)
    · exact ⟨b, off, rfl, h2, hb, hr i hi⟩

/-- an element of many cells is read -/
theorem kl_load_el {P : Program} {ops : Array Oper} {rest : List Oper} {op : Oper} {a : Act} {w : World} {Q : Exit → Act → World → Prop} (hgd : op.guard = none) (ty : TypeId) (x : Operand) (ho : op.op = .load ty x)
    (b o : Nat) (hx : a.eval x = .pointer (some ⟨b, o, none⟩)) (cs : Array Value) (d : TypeDesc) (hc : w.rangeAt b o cs.toList)
    (hu : P.underlying ty = some d) (hd : d.isRow = true) (hi : (P.info? ty).map (·.size) = some cs.size)
    (h : wpList P ops Q rest (a.put op.dst (.agg cs)) w) : wpList P ops Q (op :: rest) a w :=
  wpList_load_mid hgd ty x ho b o hx cs.toList d hc hu hd (by rw [hi, Array.length_toList]) (by rw [Array.toArray_toList]; exact h)

/-- 'string(b)' in a quiet head -/
theorem qt_string {P : Program} {C : World → Prop} {o : Oper} {a : Act} {w : World} (src dst e : TypeId) (x : Operand) (ho : o.op = .convert src dst x) (hs : P.underlying src = some (.slice e)) (he : P.underlying e = some (.int .u8)) (hd : P.underlying dst = some .string)
    (b off n c : Nat) (hx : a.eval x = .slice (some ⟨b, off, none⟩) n c) (l : List UInt8) (hl : l.length = n) (hc : ∀ j u, l[j]? = some u → w.cell? ⟨b, off + j, none⟩ = some (Value.int .u8 (u.toNat : Int))) :
    o.quietAt P a C w (.string ⟨l.toArray⟩) := by
  unfold Oper.quietAt execOp
  rw [ho]
  dsimp only
  rw [hx, Sem.run_bind]
  subst hl
  rw [run_convert_bytes_back w src dst e ⟨b, off, none⟩ c l hs he hd (fun j hj => by rw [Addr.add_mid]; exact hc j _ (List.getElem?_eq_getElem hj))]
  exact ⟨rfl, rfl⟩
theorem dArr_cells {d : List UInt8} (hd : d.length = 32) {w : World} {b : Nat} {t : TypeId} (h : w.heap[b]? = some (.cells (dArr d) t (0, 0))) : ∀ j u, d[j]? = some u → w.cell? ⟨b, 0 + j, none⟩ = some (Value.int .u8 (u.toNat : Int)) := by
  intro j u hj
  obtain ⟨hj1, hj2⟩ := List.getElem?_eq_some_iff.1 hj
  rw [Nat.zero_add, cell_of_row _ _ _ _ _ _ h, dArr_get _ _ (by omega)]
  simp [hj]

theorem flat_take (ds : List (List UInt8)) (hd : ∀ d ∈ ds, d.length = 32) : ∀ k, k ≤ ds.length → ((ds.take k).flatten).length = 32 * k := by
  intro k
  induction k with
  | zero => intro _; rfl
  | succ k ih =>
    intro h
    rw [List.take_succ_eq_append_getElem (by omega), List.flatten_append, List.length_append, ih (by omega)]
    simp only [List.flatten_cons, List.flatten_nil, List.append_nil]
    rw [hd _ (List.getElem_mem _)]; omega

theorem composed (v : Value) (ds : List (List UInt8)) (hlen : ds.length ≤ 100000) (hd : ∀ d ∈ ds, d.length = 32) (w : World) (hrd : RdD v ds w.heap.size w) :
    Calls Try.prog 44 #[v] w fun e w' => e = .returned (.agg (dArr (Em.comp ds))) ∧ Below w.heap.size w w' := by
  obtain ⟨i0, hi0, hz0, hs0⟩ := d32
  obtain ⟨i1, hi1, hz1, hs1⟩ := t46
  obtain ⟨A, c, rfl⟩ := hrd.slice
  obtain ⟨n, hn⟩ : ∃ n, n = ds.length := ⟨_, rfl⟩
  obtain ⟨D, hD⟩ : ∃ D, D = Em.comp ds := ⟨_, rfl⟩
  obtain ⟨L, hL⟩ : ∃ L : Nat → List UInt8, L = fun k => (ds.take k).flatten := ⟨_, rfl⟩
  have hL0 : L 0 = [] := by rw [hL]; rfl
  have hLl : ∀ k, k ≤ n → (L k).length = 32 * k := fun k hk => by rw [hL]; exact flat_take ds hd k (by omega)
  have hLn : L n = ds.flatten := by rw [hL, hn]; simp
  have hLs : ∀ k (h : k < ds.length), L (k + 1) = L k ++ ds[k] := fun k h => by
    rw [hL]; simp only [List.take_succ_eq_append_getElem h, List.flatten_append]; simp
  rw [← hn] at hrd hlen ⊢
  rw [← hD]
  have Hhrd := Lib.hid hrd
  have Hhn := Lib.hid hn
  have HhD := Lib.hid hD
  have HhL := Lib.hid hL
  have HhL0 := Lib.hid hL0
  have HhLl := Lib.hid hLl
  have HhLn := Lib.hid hLn
  have HhLs := Lib.hid hLs
  clear hrd hn hD hL hL0 hLl hLn hLs
  go_enter Try.func44, Try.ntmps44
  go_wp2_with (refine kl_alloc rfl 50 rfl (dArr []) i0 hi0 _ hz0 rfl ?_)
  have k1 := (Kn.start w).alloc (.cells (dArr []) 50)
  generalize w.alloc (.cells (dArr []) 50) = w1 at *
  refine (newT _).mono ?_
  rintro e w3 ⟨T, rfl, hT, hTb, hb3⟩
  have hTr : T ≠ w.heap.size := by have := k1.lt 0 rfl; omega
  have k3 := (k1.call hb3).add hTb.out
  clear k1 hb3 hT hTb
  go_wp2_with (first | refine kl_alloc rfl 46 rfl talZ i1 hi1 _ hz1 rfl ?_ | refine kl_store_new rfl 46 _ _ rfl (tal T []) rfl rfl _ _ (by rw [t46s, tal_size]) (by rw [tal_size]; rfl) (tal_one _ _) ?_)
  have k4 := k3.alloc (.cells (tal T []) 46)
  have hp : w.heap.size ≤ w3.heap.size := k3.base
  have hTp : T ≠ w3.heap.size := by have := k3.lt 0 rfl; omega
  have hrp : w.heap.size ≠ w3.heap.size := by have := k3.lt 1 rfl; omega
  generalize w3.alloc (.cells (tal T []) 46) = w4 at *
  generalize w3.heap.size = p at *
  have K4 := Lib.hid k4
  clear k3 k4
  go_wp2_with fail
  go_loopw [11] (fun iv wr => ∃ i : Nat, i ≤ n ∧ iv = .int .i64 (i : Int) ∧
      Hid (Kn w.heap.size w [(p, .cells (tal T (L i)) 46), (T, .cells (tabArr 64) 95), (w.heap.size, .cells (dArr []) 50)] wr)) (fun iv _ => n - (intOf iv).toNat)
  case atStart => exact ⟨0, by omega, rfl, by rw [HhL0.out]; exact K4.out⟩
  case round =>
    obtain ⟨i, hi, rfl, K⟩ := hrel
    clear K4
    by_cases hin : i < n
    · have hil : i < ds.length := by rw [← Hhn.out]; exact hin
      have hrd := Hhrd.out
      rw [Hhn.out] at hrd
      obtain ⟨b, off, hA, hcn, hb, hrng⟩ := hrd.at_ hil
      rw [← Hhn.out] at hcn
      have hrng2 : wr.rangeAt b (off + i * 32) (dArr ds[i]).toList := fun j u hj => (K.out.below.cell (p := ⟨b, _, none⟩) hb).trans (hrng j u hj)
      have hLs := HhLs.out i hil
      have hdl := hd _ (List.getElem_mem hil)
      generalize ds[i] = d at *
      subst hA
      clear hrng hil hrd
      have ca := fun w h => addT T (L i) ⟨d.toArray⟩ w (by rw [HhLl.out i (by omega)]; show _ + d.toArray.size ≤ _; simp; omega) h
      rw [show (⟨d.toArray⟩ : ByteArray).data.toList = d from by simp, ← hLs] at ca
      have hbi : (0 : Int) ≤ i := by omega
      have hbn : (i : Int) < n := by omega
      have HhLs := Lib.hid hLs
      have Hhdl := Lib.hid hdl
      have Hca := Lib.hid ca
      have Hhrng2 := Lib.hid hrng2
      clear hLs hdl ca hrng2
      clear hd
      go_wp2_with (first | refine kl_load_el rfl 50 _ rfl b (off + i * 32) rfl (dArr d) _ Hhrng2.out Try.underlying50 rfl (by rw [d32s, dArr_size]) ?_ | refine kl_alloc rfl 50 rfl (dArr []) i0 hi0 _ hz0 rfl ?_ | refine kl_store_new rfl 50 _ _ rfl (dArr d) rfl rfl _ _ (by rw [d32s, dArr_size]) (by rw [dArr_size, dArr_size]) (dArr_one _) ?_)
      have k5 := K.out.alloc (.cells (dArr d) 50)
      have hpq : p ≠ wr.heap.size := by have := K.out.lt 0 rfl; omega
      generalize wr.alloc (.cells (dArr d) 50) = w5 at *
      generalize wr.heap.size = q at *
      have hw5 := k5.swap
      clear k5 K
      simp only [Act.put, List.setIfInBounds_toArray, List.set_cons_zero, List.set_cons_succ]
      refine wp_region_qtail (Kn w.heap.size w [(p, .cells (tal T (L i)) 46), (q, .cells (dArr d) 50), (T, .cells (tabArr 64) 95), (w.heap.size, .cells (dArr []) 50)]) 4 (by kernel_rfl) (by kernel_rfl) hw5.drew ?_
      simp only [List.take_succ_cons, List.take_zero, List.drop_succ_cons, List.drop_zero]
      (refine wpQuiet_step (fun Kq hKq => ?_)
       refine qt_want rfl ?_
       apply Exists.intro
       refine ⟨fun _ hw => ?_, ?_⟩
       · (exact qt_load_row 46 _ rfl p rfl _ _ _ _ (hw.get 0 rfl) Try.underlying46 rfl (by rw [t46s, tal_size]))
       go_simp
       refine hKq _ ?_
       clear hKq Kq)
      (refine wpQuiet_step (fun Kq hKq => ?_)
       refine qt_want rfl ?_
       apply Exists.intro
       refine ⟨fun _ hw => ?_, ?_⟩
       · (unfold Oper.quietAt; go_simp; try exact rfl)
       go_simp
       refine hKq _ ?_
       clear hKq Kq)
      (refine wpQuiet_step (fun Kq hKq => ?_)
       refine qt_want rfl ?_
       apply Exists.intro
       refine ⟨fun _ hw => ?_, ?_⟩
       · (exact qt_string 91 9 5 _ rfl Try.underlying91 Try.underlying5 Try.underlying9 q 0 32 32 rfl d Hhdl.out (dArr_cells Hhdl.out (hw.get 1 rfl)))
       go_simp
       refine hKq _ ?_
       clear hKq Kq)
      (refine wpQuiet_step (fun Kq hKq => ?_)
       refine qt_called rfl (fun _ => by go_simp; first | exact ⟨rfl, rfl⟩ | exact rfl) ?_
       apply Exists.intro
       refine ⟨fun _ hw => ?_, ?_⟩
       · (refine (Hca.out _ (.mk (hw.get 2 rfl))).mono ?_; rintro e w' ⟨rfl, kb⟩; exact ⟨rfl, hw.call kb⟩)
       go_simp
       refine hKq _ ?_
       clear hKq Kq)
      refine wpQuiet_nil ?_
      intro w6 hw6
      have HW6 := Lib.hid hw6
      have hfin := Kn.put (w' := w6.setRow p (tal T (L (i + 1)))) hw6 hp (fun y hy => by
        simp only [List.mem_cons, List.not_mem_nil, or_false] at hy
        rcases hy with rfl | rfl | rfl
        · exact fun h => hpq h.symm
        · exact hTp
        · exact hrp) (ch_setRow w6 p _) (setRow_heap _ _ _ _ _ _ (hw6.get 0 rfl))
      have hfin2 := hfin.sub (M := [(p, .cells (tal T (L (i + 1))) 46 (0, 0)), (T, .cells (tabArr 64) 95 (0, 0)), (w.heap.size, .cells (dArr []) 50 (0, 0))]) (fun x hx => by
        simp only [List.mem_cons, List.not_mem_nil, or_false] at hx ⊢
        rcases hx with h | h | h
        · exact .inl h
        · exact .inr (.inr (.inl h))
        · exact .inr (.inr (.inr h)))
      have HFIN := Lib.hid hfin2
      clear hw6 hfin hfin2 hw5
      go_wp2_with (refine wpList_store_row rfl 46 _ _ rfl p (tal T (L (i + 1))) rfl rfl _ _ (HW6.out.get 0 rfl) (by rw [t46s, tal_size]) (by rw [tal_size, tal_size]) (tal_one _ _) ?_)
      go_roundw
      case rel => exact ⟨i + 1, by omega, by go_num, HFIN.out⟩
      case measure => simp [intOf]; omega
    · obtain rfl : i = n := by omega
      have hln := HhLl.out i (by omega)
      have hlc : (i : Int) ≤ 100000 := by omega
      obtain ⟨m, hm⟩ : ∃ m, m = i % 65536 := ⟨_, rfl⟩
      have hlo := low i 16 (by omega)
      rw [show i % 2 ^ Bm.clamp 16 = m from by rw [hm]; rfl] at hlo
      have hpu := fun w => put m 2 (by omega) w
      have hm2 : m < 65536 := by omega
      rw [show putS m 2 = beput m 2 from by unfold putS putOk; rw [if_pos (by simp; omega)]; rfl, show putE m 2 = 0 from by unfold putE putOk; rw [if_pos (by simp; omega)]] at hpu
      obtain ⟨y, hy⟩ : ∃ y, y = beput m 2 := ⟨_, rfl⟩
      have hyl : y.length = 2 := by rw [hy, beput_length]
      rw [← hy] at hpu
      have Hhln := Lib.hid hln
      have Hhm := Lib.hid hm
      have Hhlo := Lib.hid hlo
      have Hhpu := Lib.hid hpu
      have Hhy := Lib.hid hy
      have Hhyl := Lib.hid hyl
      clear hln hm hlo hpu hy hyl
      go_wp2_with (go_at_call 13; refine (Hhlo.out _).mono ?_; rintro e w' ⟨rfl, rfl⟩)
      refine (Hhpu.out _).mono ?_
      rintro e w7 ⟨rfl, hb7⟩
      have k7 := K.out.call hb7
      clear K hb7
      obtain ⟨z, hz⟩ : ∃ z : ByteArray, z = ⟨#[45]⟩ ++ ⟨y.toArray⟩ := ⟨_, rfl⟩
      have hzl : z.data.toList = 45 :: y := by rw [hz]; simp
      have hzs : z.size = 3 := by rw [show z.size = z.data.toList.length from rfl, hzl, List.length_cons, Hhyl.out]
      have ca := fun w h => addT T (L i) z w (by rw [Hhln.out]; omega) h
      rw [hzl] at ca
      have cs := fun w h => sumT T (L i ++ 45 :: y) w (by rw [List.length_append, Hhln.out, List.length_cons, Hhyl.out]; omega) h
      have hDe : D = Sm.digest (L i ++ 45 :: y) := by
        rw [HhD.out, HhLn.out]
        unfold Em.comp
        rw [Hhy.out, Hhm.out, ← Hhn.out]
        congr 1
        simp
      rw [← hDe] at cs
      have hys : (⟨y.toArray⟩ : ByteArray).size = 2 := by show y.toArray.size = 2; simp [Hhyl.out]
      have Hhz := Lib.hid hz
      have Hhzl := Lib.hid hzl
      have Hhzs := Lib.hid hzs
      have Hca := Lib.hid ca
      have Hcs := Lib.hid cs
      have HhDe := Lib.hid hDe
      have Hk7 := Lib.hid k7
      clear hz hzl hzs ca cs hDe k7
      go_wp2_with (refine wpList_load_row rfl 46 _ rfl p rfl _ _ _ _ (Hk7.out.get 0 rfl) Try.underlying46 rfl (by rw [t46s, tal_size]) ?_)
      rw [← Hhz.out]
      refine (Hca.out _ (.mk (Hk7.out.get 1 rfl))).mono ?_
      rintro e w8 ⟨rfl, hb8⟩
      have k8 := Hk7.out.call hb8
      clear hb8 Hk7
      go_wp2_with fail
      refine (Hcs.out _ (.mk (k8.get 1 rfl))).mono ?_
      rintro e w9 ⟨rfl, hb9⟩
      have k9 := k8.call hb9
      have HRES := setRow_heap w9 w.heap.size _ (dArr D) _ _ (k9.get 2 rfl)
      have HBR := below_setRow (g := w.heap.size) k9.below (by omega) (dArr D)
      have K3 := Lib.hid (k9.get 2 rfl)
      have HRES' := Lib.hid HRES
      clear k8 k9 hb9 HRES
      go_wp2_with (refine wpList_store_row rfl 50 _ _ rfl w.heap.size (dArr D) rfl rfl _ _ K3.out (by rw [d32s, dArr_size]) (by rw [dArr_size, dArr_size]) (dArr_one _) ?_)
      refine bodyPost_ret (results_cell_row rfl _ _ _ _ _ _ _ rfl HRES'.out Try.underlying50 rfl (by rw [d32s, dArr_size])) rfl ⟨rfl, HBR⟩
end Go.Proofs.Ytgdjfijkbemkeaa
