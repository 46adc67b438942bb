/-
  Plain laws: texts written for a key, and read.
  Plain laws: a path's key and marker, and what a key is parsed to.
  Laws of small structs in boxes: a field stored, a box among known boxes.
  Keys of maps: key.Name.
  Walks: a builder's writers (this dump's copyCheck refuses where the shelf's panics).
  Walks: key.stays, key.Escape.
  A builder's byte written: a block of bytes that were converted is kept.
  Walk: key.Escape.
  Walk: key.Unescape.
-/
import Derived.Test.YtidmjepfpjfkoaaDoorMb
import Derived.Lib.Strings
import Derived.Test.YtidmjepfpjfkoaaDoorMa
import Derived.Laws.Tables
import Derived.Test.YtidmjepfpjfkoaaDoorMc
import Derived.DeepKeys4
import Derived.Test.YtidmjepfpjfkoaaDoorShelf
import Derived.OwnWalk
import Derived.Laws.BitsLemmas
namespace Go.Proofs.YtidmjepfpjfkoaaDoor.Km
set_option linter.unusedVariables false
abbrev By := List UInt8

/-- does a byte stay? -/
def stays (c : UInt8) : Bool := (decide (97 ≤ (c ||| 32).toNat) && decide ((c ||| 32).toNat ≤ 122)) || (decide (48 ≤ c.toNat) && decide (c.toNat ≤ 57)) || [45, 95, 46, 126, 47].contains c
/-- one of sixteen digits -/
def dig (n : Nat) : UInt8 := UInt8.ofNat (if n < 10 then 48 + n else 55 + n)
def wr (c : UInt8) : By := if stays c then [c] else [37, dig (c.toNat / 16), dig (c.toNat % 16)]
def esc (l : By) : By := l.flatMap wr
/-- the value of a digit -/
def val (d : UInt8) : Option Nat := if 48 ≤ d.toNat ∧ d.toNat ≤ 57 then some (d.toNat - 48) else if 65 ≤ d.toNat ∧ d.toNat ≤ 70 then some (d.toNat - 55) else none
/-- the byte that a text begins with, and how many bytes it takes -/
def hd3 : By → Option (UInt8 × Nat)
  | a :: b :: _ => (match val a, val b with
        | some x, some y => if stays (UInt8.ofNat (16 * x + y)) then none else some (UInt8.ofNat (16 * x + y), 3)
        | _, _ => none)
  | _ => none
def hd : By → Option (UInt8 × Nat)
  | [] => none
  | c :: r => if c = 37 then hd3 r else if stays c then some (c, 1) else none
def unF : Nat → By → Option By
  | 0, _ => none
  | n + 1, [] => some []
  | n + 1, c :: r => match hd (c :: r) with
    | none => none
    | some (x, k) => (unF n ((c :: r).drop k)).map (x :: ·)
def un (l : By) : Option By := unF (l.length + 1) l
def unS (l : By) : By := (un l).getD []
def unE (l : By) : Nat := if un l = none then 2 else 0

/-! ### of all bytes -/
theorem all_bytes {p : UInt8 → Prop} (h : ∀ n : Fin 256, p (UInt8.ofNat n.val)) (c : UInt8) : p c := by
  have := h ⟨c.toNat, c.toNat_lt⟩
  simpa using this
theorem hd_wr (c : UInt8) : ∀ r : By, hd (wr c ++ r) = some (c, (wr c).length) := by
  have h1 : (stays c = true → c ≠ 37) ∧ (stays c = false → val (dig (c.toNat / 16)) = some (c.toNat / 16) ∧ val (dig (c.toNat % 16)) = some (c.toNat % 16) ∧ UInt8.ofNat (16 * (c.toNat / 16) + c.toNat % 16) = c) :=
    all_bytes (p := fun c => (stays c = true → c ≠ 37) ∧ (stays c = false → val (dig (c.toNat / 16)) = some (c.toNat / 16) ∧ val (dig (c.toNat % 16)) = some (c.toNat % 16) ∧ UInt8.ofNat (16 * (c.toNat / 16) + c.toNat % 16) = c)) (by decide +kernel) c
  intro r
  unfold wr
  cases hs : stays c with
  | true =>
    rw [if_pos rfl, List.singleton_append, hd, if_neg (h1.1 hs), hs, if_pos rfl]
    rfl
  | false =>
    obtain ⟨g1, g2, g3⟩ := h1.2 hs
    rw [if_neg (by simp)]
    show hd (37 :: dig (c.toNat / 16) :: dig (c.toNat % 16) :: r) = _
    rw [hd, if_pos rfl, hd3]
    simp only [g1, g2]
    rw [g3, hs, if_neg (by simp)]
    rfl
/-- what a text begins with is written so -/
theorem hd_is {l : By} {x : UInt8} {k : Nat} (h : hd l = some (x, k)) : ∃ r, l = wr x ++ r ∧ k = (wr x).length := by
  match l, h with
  | c :: r, h =>
    rw [hd] at h
    split at h
    · rename_i hc
      match r, h with
      | [], h => cases h
      | [_], h => cases h
      | a :: b :: r, h =>
        rw [hd3] at h
        cases ha : val a with
        | none => rw [ha] at h; cases h
        | some u =>
          cases hb : val b with
          | none => rw [ha, hb] at h; cases h
          | some v =>
            rw [ha, hb] at h
            simp only at h
            split at h
            · cases h
            · rename_i hs
              obtain ⟨rfl, rfl⟩ := Prod.mk.inj (Option.some.inj h)
              have hv : ∀ d : UInt8, ∀ u, val d = some u → u < 16 ∧ dig u = d := fun d u hd => by
                have := all_bytes (p := fun d => ∀ u, u < 16 → val d = some u → dig u = d) (by decide +kernel) d
                have h16 : u < 16 := by
                  unfold val at hd
                  split at hd
                  · obtain rfl := Option.some.inj hd; omega
                  · split at hd
                    · obtain rfl := Option.some.inj hd; omega
                    · cases hd
                exact ⟨h16, this u h16 hd⟩
              obtain ⟨hu, du⟩ := hv a u ha
              obtain ⟨hw, dw⟩ := hv b v hb
              have hn : (UInt8.ofNat (16 * u + v)).toNat = 16 * u + v := by rw [UInt8.toNat_ofNat']; omega
              refine ⟨r, ?_, ?_⟩
              · unfold wr
                rw [if_neg hs, hn, show (16 * u + v) / 16 = u by omega, show (16 * u + v) % 16 = v by omega, du, dw, hc]
                rfl
              · unfold wr
                rw [if_neg hs]; rfl
    · split at h
      · rename_i hs
        obtain ⟨rfl, rfl⟩ := Prod.mk.inj (Option.some.inj h)
        exact ⟨r, by unfold wr; rw [if_pos hs]; rfl, by unfold wr; rw [if_pos hs]; rfl⟩
      · cases h
theorem wr_pos (c : UInt8) : 1 ≤ (wr c).length ∧ (wr c).length ≤ 3 := by
  unfold wr
  split <;> simp
theorem unF_more : ∀ (n m : Nat) (l : By), l.length < n → l.length < m → unF n l = unF m l
  | n + 1, m + 1, [], _, _ => rfl
  | n + 1, m + 1, c :: r, h1, h2 => by
    rw [unF, unF]
    cases hh : hd (c :: r) with
    | none => rfl
    | some p =>
      obtain ⟨x, k⟩ := p
      obtain ⟨r2, e, hk⟩ := hd_is hh
      have hp := wr_pos x
      have hl : ((c :: r).drop k).length < (c :: r).length := by rw [List.length_drop]; simp; omega
      simp only
      rw [unF_more n m _ (by omega) (by omega)]
theorem un_nil : un [] = some [] := rfl
theorem un_none {c : UInt8} {r : By} (h : hd (c :: r) = none) : un (c :: r) = none := by
  unfold un; rw [unF, h]
theorem un_some {l : By} {x : UInt8} {k : Nat} (h : hd l = some (x, k)) : un l = (un (l.drop k)).map (x :: ·) := by
  obtain ⟨r, e, hk⟩ := hd_is h
  have hp := wr_pos x
  match l, h with
  | c :: s, h =>
    unfold un
    rw [unF, h]
    simp only
    rw [unF_more _ (((c :: s).drop k).length + 1) _ (by rw [List.length_drop]; simp; omega) (by omega)]
theorem un_esc : ∀ l : By, un (esc l) = some l
  | [] => rfl
  | c :: l => by
    have h := hd_wr c (esc l)
    have e : esc (c :: l) = wr c ++ esc l := rfl
    rw [e, un_some h, List.drop_left' rfl, un_esc l]
    rfl
theorem esc_un : ∀ (n : Nat) (l m : By), l.length < n → un l = some m → esc m = l
  | 0, _, _, h, _ => absurd h (by omega)
  | n + 1, [], m, _, h => by rw [un_nil] at h; obtain rfl := Option.some.inj h; rfl
  | n + 1, c :: r, m, hl, h => by
    cases hh : hd (c :: r) with
    | none => rw [un_none hh] at h; cases h
    | some p =>
      obtain ⟨x, k⟩ := p
      obtain ⟨r2, e, hk⟩ := hd_is hh
      have hp := wr_pos x
      rw [un_some hh] at h
      cases hu : un ((c :: r).drop k) with
      | none => rw [hu] at h; cases h
      | some q =>
        rw [hu] at h
        obtain rfl := Option.some.inj h
        have := esc_un n _ q (by rw [List.length_drop]; simp at hl ⊢; omega) hu
        have e2 : esc (x :: q) = wr x ++ esc q := rfl
        rw [e2, this, e, hk, List.drop_left' rfl]
theorem esc_le (l : By) : (esc l).length ≤ 3 * l.length := by
  induction l with
  | nil => simp [esc]
  | cons c l ih =>
    have := (wr_pos c).2
    have e : esc (c :: l) = wr c ++ esc l := rfl
    rw [e]; simp; omega
theorem un_le : ∀ (n : Nat) (l m : By), l.length < n → un l = some m → m.length ≤ l.length := fun n l m hl h => by
  have e := esc_un n l m hl h
  have : ∀ q : By, q.length ≤ (esc q).length := fun q => by
    induction q with
    | nil => simp
    | cons c q ih =>
      have := (wr_pos c).1
      have e : esc (c :: q) = wr c ++ esc q := rfl
      rw [e]; simp; omega
  rw [← e]; exact this m
end Go.Proofs.YtidmjepfpjfkoaaDoor.Km

namespace Go.Proofs.YtidmjepfpjfkoaaDoor.Km
open Go
set_option linter.unusedVariables false
def madeE (p b : By) : Nat := if Pm.right p ≠ 0 then Pm.right p else if 128 < (esc p ++ b).length then 4 else 0
def madeS (p b : By) : By := if madeE p b = 0 then esc p ++ b else []
def sfx (k : By) : Bool := Lib.hasSuffix k [47]
def rst (k : By) : By := Lib.trimSuffix k [47]
def parE (k : By) : Nat := if 128 < k.length then 4 else if unE (rst k) ≠ 0 then 2 else if Pm.right (unS (rst k)) ≠ 0 then 2 else 0
def parS (k : By) : By := if parE k = 0 then unS (rst k) else []
def parD (k : By) : Bool := if parE k = 0 then sfx k else false
theorem sfx_get (k : By) : sfx k = true ↔ 0 < k.length ∧ k[k.length - 1]? = some 47 := by
  unfold sfx Lib.hasSuffix
  rw [List.isSuffixOf_iff_suffix]
  constructor
  · rintro ⟨t, rfl⟩
    simp
  · rintro ⟨h0, h⟩
    refine ⟨k.dropLast, ?_⟩
    have hne : k ≠ [] := by intro h; rw [h] at h0; simp at h0
    have h2 : k.getLast hne = 47 := by
      rw [List.getLast_eq_getElem]
      have := List.getElem?_eq_some_iff.1 h
      exact this.2
    rw [← h2, List.dropLast_concat_getLast]
theorem rst_le (k : By) : (rst k).length ≤ k.length := by
  unfold rst Lib.trimSuffix
  split
  · rw [List.length_take]; omega
  · exact Nat.le_refl _
theorem unS_le (k : By) : (unS k).length ≤ k.length := by
  unfold unS
  cases h : un k with
  | none => simp
  | some m => exact un_le _ k m (Nat.lt_succ_self _) h
theorem esc_len (p : By) : (esc p).length ≤ 3 * p.length := esc_le p
end Go.Proofs.YtidmjepfpjfkoaaDoor.Km

namespace Go.Proofs.YtidmjepfpjfkoaaDoor
open Go Go.RowKit
set_option linter.unusedVariables false
section
variable {P : Program} {ops : Array Oper} {rest : List Oper} {o : Oper} {a : Act} {w : World} {Q : Exit → Act → World → Prop}
/-- one field of a box is stored -/
theorem kl_set (hgd : o.guard = none) (ty : TypeId) (x y : Operand) (ho : o.op = .store ty x y) (b i : Nat) (hx : a.eval x = .pointer (some ⟨b, i, none⟩)) (v : Value) (hy : a.eval y = v)
    (cs : Array Value) (T : TypeId) (hg : w.heap[b]? = some (.cells cs T (0, 0))) (hi : (P.info? ty).map (·.size) = some 1) (hn : i < cs.size) (h1 : v.oneCell' = true)
    (h : wpList P ops Q rest (a.put o.dst undef) (w.setRow b (cs.setIfInBounds i v))) : wpList P ops Q (o :: rest) a w := by
  refine wpList_plain hgd fun K hK => ?_
  have hvc : v.cells = #[v] := by cases v <;> first | rfl | (simp [Value.oneCell'] at h1)
  have hst : (storeVar ty ⟨b, i, none⟩ v).run P w = .ok () (w.setRow b (cs.setIfInBounds i v)) := by
    have h2 : (store ((⟨b, i, none⟩ : Addr).add 0) v).run P w = .ok () (w.setRow b (cs.setIfInBounds i v)) := by
      have hcell : w.cell? ⟨b, i, none⟩ = some cs[i] := by simp [World.cell?, hg, hn]
      have hfro : w.frozen? ⟨b, i, none⟩ = false := by simp [World.frozen?, hg]
      have hadd : (⟨b, i, none⟩ : Addr).add 0 = ⟨b, i, none⟩ := by unfold Addr.add; split <;> simp_all
      rw [hadd, run_store P w _ v _ h1, hcell]
      simp [hfro, setCell_eq_setRow w b i cs T (0, 0) v hg]
    cases hq : P.info? ty with
    | none => simp [hq] at hi
    | some j =>
      have hs : j.size = 1 := by simp [hq] at hi; omega
      simp [storeVar, sizeOf, typeInfo, hq, hvc, hs, storeCells, h2]
  unfold Oper.wp execOp
  simp only [ho, hx, hy, Instr.storeAt, Instr.sureAddr, Sem.run_bind, Sem.run_pure, Result.andThen_ok, hst]
  exact hK _ _ h
end
theorem Kn.row {B : Nat} {w0 w : World} {L : List (Nat × Obj)} {b : Nat} {cs : Array Value} {T : TypeId} {fr : Nat × Nat} (h : Kn B w0 ((b, .cells cs T fr) :: L) w) (hB : B ≤ b) (hne : ∀ x ∈ L, x.1 ≠ b) (cs' : Array Value) :
    Kn B w0 ((b, .cells cs' T fr) :: L) (w.setRow b cs') :=
  ⟨below_setRow h.below hB cs', by rw [setRow_size]; exact h.base, fun x hx => by
    rcases List.mem_cons.1 hx with rfl | hx
    · exact setRow_heap w b cs cs' T fr (h.get 0 rfl)
    · rw [setRow_other _ _ _ _ (hne x hx)]; exact h.has x (List.mem_cons_of_mem _ hx)⟩
theorem cell_row {w : World} {b i : Nat} {cs : Array Value} {T : TypeId} {fr : Nat × Nat} {v : Value} (h : w.heap[b]? = some (.cells cs T fr)) (hv : cs[i]? = some v) : w.cell? ⟨b, i, none⟩ = some v := by
  unfold World.cell?
  rw [h]
  exact hv
theorem one2 {a b : Value} (ha : a.oneCell' = true) (hb : b.oneCell' = true) : (#[a, b] : Array Value).all (·.oneCell') = true := by simp [ha, hb]
theorem one4 {a b c d : Value} (ha : a.oneCell' = true) (hb : b.oneCell' = true) (hc : c.oneCell' = true) (hd : d.oneCell' = true) : (#[a, b, c, d] : Array Value).all (·.oneCell') = true := by simp [ha, hb, hc, hd]
theorem szB : (Tryd.prog.info? 4).map (·.size) = some 1 := by kernel_rfl
theorem szS : (Tryd.prog.info? 9).map (·.size) = some 1 := by kernel_rfl
theorem szI : (Tryd.prog.info? 3).map (·.size) = some 1 := by kernel_rfl
end Go.Proofs.YtidmjepfpjfkoaaDoor

namespace Go.Proofs.YtidmjepfpjfkoaaDoor
open Go Go.RowKit Go.Maps Go.WideElems
set_option linter.unusedVariables false
set_option maxRecDepth 20000
theorem laidK : laidOutB Tryd.prog = true := by kernel_rfl
theorem row65 : (65 : TypeId) < Tryd.prog.types.size := of_decide_eq_true (by kernel_rfl)
theorem wide65 : (match Tryd.prog.underlying 65 with | some (.array _ _) | some (.struct _) => true | _ => false) = true := by kernel_rfl
theorem nameKeyed : Keyed Tryd.prog 65 := Keyed.of_law (deep_law_laid laidK (m := 3) (by omega) row65 (by kernel_rfl) wide65)
theorem cells65 : Tryd.prog.cellsOf 65 = 2 := by kernel_rfl
theorem cells9 : Tryd.prog.cellsOf 9 = 1 := by kernel_rfl
theorem cells4 : Tryd.prog.cellsOf 4 = 1 := by kernel_rfl
theorem nameKey (s : ByteArray) (b : Bool) (hs : s.size ≤ 100000) : ∃ kl, keyOf Tryd.prog 65 (.agg #[.string s, .bool b]) = some kl := by
  obtain ⟨m, hm⟩ : ∃ m, Tryd.prog.types.size = m + 1 := Nat.exists_eq_succ_of_ne_zero (fun h => by have h2 := row65; rw [h] at h2; exact absurd h2 (Nat.not_lt_zero _))
  have hk : Tryd.prog.keyType 65 = true := by kernel_rfl
  have hs2 : s.size ≤ maxLen := Nat.le_trans hs (by decide)
  unfold keyOf
  rw [Tryd.underlying65]
  have hf : (Value.agg #[.string s, .bool b]).formed Tryd.prog 65 = true := by
    simp [Value.formed, Tryd.underlying65, cells65]
  simp only [hk, hf, Bool.and_self, if_true, hm]
  refine ⟨_, Option.map_eq_some_iff.2 ⟨[.string s.data.toList, .bool b], ?_, rfl⟩⟩
  unfold Program.keyLits
  simp [Tryd.underlying65, Value.cells, cells65, cells9, cells4, Program.keyLits, Tryd.underlying9, Tryd.underlying4, hs2]
theorem strKeyed : Keyed Tryd.prog 9 := string_keyed Tryd.underlying9
theorem boolZero (w : World) : (zeroValue 4).run Tryd.prog w = .ok (.bool false) w := by kernel_rfl
end Go.Proofs.YtidmjepfpjfkoaaDoor

namespace Go.Proofs.YtidmjepfpjfkoaaDoor
open Go.RowKit
set_option maxHeartbeats 2000000
set_option maxRecDepth 100000
set_option linter.unusedVariables false

abbrev TB : TypeId := 109
theorem info_b : (Tryd.prog.info? 109).map (·.size) = some 2 := by kernel_rfl
theorem lies_b : liesAt Tryd.prog Tryd.prog.depth 109 (2 / Tryd.prog.cellsOf 109) 0 109 1 = true := by kernel_rfl
theorem info_byte : (Tryd.prog.info? 5).map (fun i => (i.zero, i.size, i.bytes)) = some (some (.int .u8 0), 1, 1) := by kernel_rfl

/-- at a builder: used already, or new -/
theorem bcheck (B b : Nat) (bs : List Value) (w : World) (h : Lib.IsBuilder 109 5 B b bs w) :
    Calls Tryd.prog 100 #[.pointer (some ⟨b, 0, none⟩)] w fun e w' => e = .returned (.tuple #[]) ∧ Lib.BuilderAt 109 5 B b (.pointer (some ⟨b, 0, none⟩)) bs w' ∧ Below B w w' := by
  rcases h with h | h
  · obtain ⟨j, hj, hjs⟩ := Option.map_eq_some_iff.1 info_b
    have hc := h.cell0
    have hsh := h.shape
    have hf := h.frozen0
    have hu := h.used
    have hB := h.1
    have HU := Lib.hid hu
    have HB := Lib.hid hB
    clear h hu hB
    go_enter Tryd.func100, Tryd.ntmps100
    go_wp2
    rw [Lib.run_to_unsafe w ⟨b, 0, none⟩ Tryd.underlying106 Tryd.underlying165 hj (by rw [hjs]; decide) hsh (Nat.zero_lt_succ 1)]
    simp only [Result.andThen]
    rw [Oper.upon_value]
    go_wp2
    rw [run_callFunc_extern Tryd.func133 (by kernel_rfl) (by kernel_rfl) (by kernel_rfl) (e := Extern.AbiNoEscape.same) (by kernel_rfl)]
    rw [Lib.run_noEscape]
    simp only [Result.andThen]
    rw [Oper.upon_value]
    go_wp2
    rw [Lib.run_from_unsafe w ⟨b, 0, none⟩ Tryd.underlying165 Tryd.underlying106 hj hsh lies_b]
    simp only [Result.andThen]
    rw [Oper.upon_value]
    go_wp2
    go_end0
    exact ⟨rfl, HU.out _, (Below.refl B w).setCell (p := ⟨b, 0, none⟩) HB.out _⟩
  · have hc := h.cell0
    have H := Lib.hid h
    clear h
    go_enter Tryd.func100, Tryd.ntmps100
    obtain ⟨j, hj, _⟩ := Option.map_eq_some_iff.1 info_b
    go_wp2
    rw [Lib.run_neq_ptr_same w _ Tryd.underlying106 hj]
    go_wp2
    go_end0
    exact ⟨rfl, H.out, Below.refl B _⟩

theorem bbyte (B b : Nat) (bs : List Value) (c : Int) (w : World) (h : Lib.IsBuilder 109 5 B b bs w) (hlen : bs.length + 1 ≤ 140737488355328) (hBw : B ≤ w.heap.size) :
    Calls Tryd.prog 68 #[.pointer (some ⟨b, 0, none⟩), .int .u8 c] w fun e w' => e = .returned .nilIface ∧ Lib.BuilderAt 109 5 B b (.pointer (some ⟨b, 0, none⟩)) (bs ++ [.int .u8 c]) w' ∧ Below B w w' := by
  obtain ⟨i0, hi, hz0, hz1, hz2⟩ := info_parts info_byte
  go_enter Tryd.func68, Tryd.ntmps68
  go_wp2_with fail
  refine (bcheck B b bs _ h).mono ?_
  rintro e w1 ⟨rfl, h1, hb1⟩
  obtain ⟨hB, v, hbk, hown, hne⟩ := h1
  have c0 : w1.cell? ⟨b, 0, none⟩ = some (.pointer (some ⟨b, 0, none⟩)) := by rw [Lib.cell_of_heap hbk]; rfl
  have c1 : w1.cell? ⟨b, 1, none⟩ = some v := by rw [Lib.cell_of_heap hbk]; rfl
  have hlt := lt_of_block hbk
  have hs1 := hb1.size
  have HBK := Lib.hid hbk
  have HOWN := Lib.hid hown
  clear hbk hown h
  go_wp2_with (at_builtin; refine wpList_append_own _ rfl _ _ 107 rfl B 5 i0 (.int .u8 0) 1 1 Tryd.underlying107 hi hz0 hz1 hz2 rfl (by decide) _ _ _ rfl (HOWN.out.alloc _) ⟨w1.heap.size, 0, none⟩ 1 1 [.int .u8 c] rfl rfl ?c1 ?c2 ?c3 ?c4 ?c5 ?_)
  case c1 =>
    intro j u hj
    match j, hj with
    | 0, hj => simp at hj; subst hj; simp [Addr.add]
  case c2 => intro u hu; simp at hu; subst hu; rfl
  case c3 => unfold maxLen; omega
  case c4 => omega
  case c5 => simp; omega
  intro v' w2 hown' hgrow _
  have hb2 : w2.heap[b]? = some (.cells #[.pointer (some ⟨b, 0, none⟩), v] 109 (0, 0)) := by
    rw [hgrow.block b (by simp; omega) (fun e => hne e.symm), Lib.alloc_old w1 _ b hlt]
    exact HBK.out
  have d0 : w2.cell? ⟨b, 0, none⟩ = some (.pointer (some ⟨b, 0, none⟩)) := by rw [Lib.cell_of_heap hb2]; rfl
  have d1 : w2.cell? ⟨b, 1, none⟩ = some v := by rw [Lib.cell_of_heap hb2]; rfl
  have f1 : w2.frozen? ⟨b, 1, none⟩ = false := Lib.frozen_of_heap hb2 1
  obtain ⟨g, cap, rfl⟩ : ∃ g cap, v' = .slice (some ⟨g, 0, none⟩) (bs.length + 1) cap := by
    rcases hown'.2 with ⟨_, h0⟩ | ⟨g, cap, cur, hv, _⟩
    · omega
    · exact ⟨g, cap, hv⟩
  go_wp2
  go_ret
  refine ⟨rfl, ?_, ?_⟩
  · exact Lib.BuilderAt.put (T := 109) (e := 5) hB hb2 (bs' := bs ++ [.int .u8 c]) (by simpa using hown') (by decide)
  · exact ((hb1.alloc (by omega) _).grown hgrow (by simp; omega) (fun k hk => (HOWN.out.lt k hk).1)).setCell (p := ⟨b, 1, none⟩) hB _

theorem bstring (B b : Nat) (bs : List Value) (s : ByteArray) (w : World) (h : Lib.IsBuilder 109 5 B b bs w) (hlen : bs.length + s.size ≤ 140737488355328) (hBw : B ≤ w.heap.size) :
    Calls Tryd.prog 109 #[.pointer (some ⟨b, 0, none⟩), .string s] w fun e w' => e = .returned (.tuple #[.int .i64 s.size, .nilIface]) ∧ Lib.BuilderAt 109 5 B b (.pointer (some ⟨b, 0, none⟩)) (bs ++ Lib.strCells s) w' ∧ Below B w w' := by
  obtain ⟨i0, hi, hz0, hz1, hz2⟩ := info_parts info_byte
  go_enter Tryd.func109, Tryd.ntmps109
  go_wp2_with fail
  refine (bcheck B b bs _ h).mono ?_
  rintro e w1 ⟨rfl, h1, hb1⟩
  obtain ⟨hB, v, hbk, hown, hne⟩ := h1
  have c0 : w1.cell? ⟨b, 0, none⟩ = some (.pointer (some ⟨b, 0, none⟩)) := by rw [Lib.cell_of_heap hbk]; rfl
  have c1 : w1.cell? ⟨b, 1, none⟩ = some v := by rw [Lib.cell_of_heap hbk]; rfl
  have hlt := lt_of_block hbk
  have hs1 := hb1.size
  have HBK := Lib.hid hbk
  have HOWN := Lib.hid hown
  clear hbk hown h
  go_wp2_with (at_builtin; refine Lib.wpList_append_own_string _ rfl _ _ 107 9 rfl B 5 i0 Tryd.underlying107 Tryd.underlying9 hi hz0 hz1 hz2 _ _ _ rfl HOWN.out s rfl ?c3 ?c4 ?c5 ?_)
  case c3 => unfold maxLen; omega
  case c4 => omega
  case c5 => omega
  intro v' w2 hown' hgrow _
  have hb2 : w2.heap[b]? = some (.cells #[.pointer (some ⟨b, 0, none⟩), v] 109 (0, 0)) := by
    rw [hgrow.block b hlt (fun e => hne e.symm)]
    exact HBK.out
  have d0 : w2.cell? ⟨b, 0, none⟩ = some (.pointer (some ⟨b, 0, none⟩)) := by rw [Lib.cell_of_heap hb2]; rfl
  have d1 : w2.cell? ⟨b, 1, none⟩ = some v := by rw [Lib.cell_of_heap hb2]; rfl
  have f1 : w2.frozen? ⟨b, 1, none⟩ = false := Lib.frozen_of_heap hb2 1
  obtain ⟨ao, n', cap, rfl⟩ : ∃ ao n' cap, v' = .slice ao n' cap := by
    rcases hown'.2 with ⟨hv, _⟩ | ⟨g, cap, cur, hv, _⟩
    · exact ⟨_, _, _, hv⟩
    · exact ⟨_, _, _, hv⟩
  go_wp2
  go_ret2
  refine ⟨rfl, ?_, ?_⟩
  · exact Lib.BuilderAt.put (T := 109) (e := 5) hB hb2 (bs' := bs ++ Lib.strCells s) (by simpa [Lib.strCells_length] using hown') (by decide)
  · exact (hb1.grown hgrow (by omega) (fun k hk => (HOWN.out.lt k hk).1)).setCell (p := ⟨b, 1, none⟩) hB _
end Go.Proofs.YtidmjepfpjfkoaaDoor

namespace Go.Proofs.YtidmjepfpjfkoaaDoor
open Go Go.RowKit
set_option maxHeartbeats 4000000
set_option maxRecDepth 20000
set_option linter.unusedVariables false
set_option linter.unusedSimpArgs false

theorem idxByteC (c : UInt8) : ∀ l : List UInt8, decide (0 ≤ Lib.indexByte l c) = l.contains c
  | [] => rfl
  | b :: l => by
    rw [Lib.indexByte, List.contains_cons, ← idxByteC c l]
    by_cases h : b = c
    · subst h; simp
    · have h1 : (b == c) = false := beq_eq_false_iff_ne.2 h
      have h2 : (c == b) = false := beq_eq_false_iff_ne.2 fun e => h e.symm
      rw [h1, h2]
      simp only [Bool.false_eq_true, if_false, Bool.false_or]
      by_cases h3 : Lib.indexByte l c = -1
      · rw [h3]; rfl
      · have h4 : (Lib.indexByte l c == -1) = false := beq_eq_false_iff_ne.2 h3
        rw [h4]
        simp only [Bool.false_eq_true, if_false]
        have h5 : -1 ≤ Lib.indexByte l c := by
          have : ∀ l : List UInt8, -1 ≤ Lib.indexByte l c := by
            intro l
            induction l with
            | nil => rw [Lib.indexByte]; omega
            | cons b l ih => rw [Lib.indexByte]; split; omega; split; omega; omega
          exact this l
        apply decide_eq_decide.2
        omega
theorem or32 (c : UInt8) : bits .or .u8 (c.toNat : Int) 32 = ((c ||| 32).toNat : Int) := by
  have h := (bits_nat .u8 8 (by decide) (fun n h0 h1 => by rw [IntKind.wrap_u8]; omega) c.toNat 32 (by have := c.toNat_lt; omega) (by omega)).2
  rw [show (c ||| 32).toNat = c.toNat ||| 32 from UInt8.toNat_or c 32]
  exact h
theorem keyStays (c : UInt8) (w : World) :
    Calls Tryd.prog 67 #[.int .u8 (c.toNat : Int)] w fun e w' => e = .returned (.bool (Km.stays c)) ∧ w' = w := by
  have hi := Tryd.strings_IndexByte ⟨#[45, 95, 46, 126, 47]⟩ (c.toNat : Int) w
  rw [show ((c.toNat : Int).toNat.toUInt8) = c by simp] at hi
  have h0 := idxByteC c [45, 95, 46, 126, 47]
  have hor := or32 c
  have hr : Km.stays c = ((decide (97 ≤ (c ||| 32).toNat) && decide ((c ||| 32).toNat ≤ 122)) || (decide (48 ≤ c.toNat) && decide (c.toNat ≤ 57)) || decide (0 ≤ Lib.indexByte [45, 95, 46, 126, 47] c)) := by
    unfold Km.stays; rw [h0]
  change Calls Tryd.prog 66 #[.string ⟨#[45, 95, 46, 126, 47]⟩, .int .u8 (c.toNat : Int)] w fun e w' => e = .returned (.int .i64 (Lib.indexByte [45, 95, 46, 126, 47] c)) ∧ w' = w at hi
  obtain ⟨r, hrr⟩ : ∃ r, r = Km.stays c := ⟨_, rfl⟩
  rw [← hrr] at hr ⊢
  generalize Lib.indexByte [45, 95, 46, 126, 47] c = x at *
  generalize (c ||| 32).toNat = o at *
  generalize c.toNat = n at *
  clear h0 hrr
  have Hhi := Lib.hid hi
  have Hhr := Lib.hid hr
  clear hi hr
  by_cases h1 : (97 : Int) ≤ o
  · by_cases h2 : (o : Int) ≤ 122
    · have HR : Hid (r = true) := by show r = true; rw [Hhr.out, decide_eq_true (show 97 ≤ o by omega), decide_eq_true (show o ≤ 122 by omega)]; rfl
      go_enter Tryd.func67, Tryd.ntmps67
      go_wp2_with fail
      go_ret
      exact ⟨by rw [HR.out]; rfl, rfl⟩
    · by_cases h3 : (48 : Int) ≤ n
      · by_cases h4 : (n : Int) ≤ 57
        · have HR : Hid (r = true) := by show r = true; rw [Hhr.out, decide_eq_true (show 48 ≤ n by omega), decide_eq_true (show n ≤ 57 by omega)]; simp
          go_enter Tryd.func67, Tryd.ntmps67
          go_wp2_with fail
          go_ret
          exact ⟨by rw [HR.out]; rfl, rfl⟩
        · have HR : Hid (r = decide (0 ≤ x)) := by show r = _; rw [Hhr.out, decide_eq_false (show ¬ o ≤ 122 by omega), decide_eq_false (show ¬ n ≤ 57 by omega)]; simp
          go_enter Tryd.func67, Tryd.ntmps67
          go_wp2_with fail
          refine Hhi.out.mono ?_
          rintro e w' ⟨rfl, rfl⟩
          go_wp2_with fail
          go_ret
          exact ⟨by rw [HR.out]; rfl, rfl⟩
      · have HR : Hid (r = decide (0 ≤ x)) := by show r = _; rw [Hhr.out, decide_eq_false (show ¬ o ≤ 122 by omega), decide_eq_false (show ¬ 48 ≤ n by omega)]; simp
        go_enter Tryd.func67, Tryd.ntmps67
        go_wp2_with fail
        refine Hhi.out.mono ?_
        rintro e w' ⟨rfl, rfl⟩
        go_wp2_with fail
        go_ret
        exact ⟨by rw [HR.out]; rfl, rfl⟩
  · by_cases h3 : (48 : Int) ≤ n
    · by_cases h4 : (n : Int) ≤ 57
      · have HR : Hid (r = true) := by show r = true; rw [Hhr.out, decide_eq_true (show 48 ≤ n by omega), decide_eq_true (show n ≤ 57 by omega)]; simp
        go_enter Tryd.func67, Tryd.ntmps67
        go_wp2_with fail
        go_ret
        exact ⟨by rw [HR.out]; rfl, rfl⟩
      · have HR : Hid (r = decide (0 ≤ x)) := by show r = _; rw [Hhr.out, decide_eq_false (show ¬ 97 ≤ o by omega), decide_eq_false (show ¬ n ≤ 57 by omega)]; simp
        go_enter Tryd.func67, Tryd.ntmps67
        go_wp2_with fail
        refine Hhi.out.mono ?_
        rintro e w' ⟨rfl, rfl⟩
        go_wp2_with fail
        go_ret
        exact ⟨by rw [HR.out]; rfl, rfl⟩
    · have HR : Hid (r = decide (0 ≤ x)) := by show r = _; rw [Hhr.out, decide_eq_false (show ¬ 97 ≤ o by omega), decide_eq_false (show ¬ 48 ≤ n by omega)]; simp
      go_enter Tryd.func67, Tryd.ntmps67
      go_wp2_with fail
      refine Hhi.out.mono ?_
      rintro e w' ⟨rfl, rfl⟩
      go_wp2_with fail
      go_ret
      exact ⟨by rw [HR.out]; rfl, rfl⟩
end Go.Proofs.YtidmjepfpjfkoaaDoor

namespace Go.Proofs.YtidmjepfpjfkoaaDoor
open Go Go.RowKit
set_option maxHeartbeats 2000000
set_option maxRecDepth 100000
set_option linter.unusedVariables false

section
variable {P : Program} {ops : Array Oper} {rest : List Oper} {o : Oper} {a : Act} {w : World} {Q : Exit → Act → World → Prop}
/-- '[]byte(s)': the block itself -/
theorem kl_bytes2 (hgd : o.guard = none) (src dst e : TypeId) (x : Operand) (ho : o.op = .convert src dst x) (hs : P.underlying src = some .string) (hd : P.underlying dst = some (.slice e)) (he : P.underlying e = some (.int .u8))
    (s : ByteArray) (hx : a.eval x = .string s)
    (h : ∀ c w' (arr : Array Value) (f : Nat × Nat), s.size ≤ c → Below w.heap.size w w' → w.heap.size < w'.heap.size → f ≠ (0, 0) → w'.heap[w.heap.size]? = some (.cells arr e f) → (∀ (j : Nat) (u : UInt8), s.data.toList[j]? = some u → arr[j]? = some (Value.int .u8 (u.toNat : Int))) →
      wpList P ops Q rest (a.put o.dst (.slice (some ⟨w.heap.size, 0, none⟩) s.size c)) w') : wpList P ops Q (o :: rest) a w := by
  refine wpList_plain hgd fun K hK => ?_
  unfold Oper.wp execOp
  rw [ho]
  dsimp only
  rw [hx, Sem.run_bind, run_bytes_of_string w src dst e s hs hd he]
  simp only [Result.andThen_ok]
  have hblk := heap_alloc_new w.drew (Obj.cells (bytesRow s (grownCap w s.size 0 e)) e ((bytesRow s (grownCap w s.size 0 e)).size, (bytesRow s (grownCap w s.size 0 e)).size + 1))
  refine hK _ _ (h (grownCap w s.size 0 e) _ _ _ (grownCap_ge _ _ _ _) (((Below.refl _ _).drew).alloc (Nat.le_refl _) _) (by rw [size_alloc]; exact Nat.lt_succ_self _) (by intro e; have := congrArg Prod.snd e; simp at this) hblk ?_)
  intro j u hj
  obtain ⟨hj1, hj2⟩ := List.getElem?_eq_some_iff.1 hj
  subst hj2
  have hj3 : j < s.data.size := by simpa using hj1
  have hj4 : j < s.size := hj3
  simp [bytesRow, hj4, Array.getElem?_append]
end
/-- at a builder: used already, or new -/
theorem bcheckX (B b : Nat) (bs : List Value) (w : World) (h : Lib.IsBuilder 109 5 B b bs w) :
    Calls Tryd.prog 100 #[.pointer (some ⟨b, 0, none⟩)] w fun e w' => e = .returned (.tuple #[]) ∧ Lib.BuilderAt 109 5 B b (.pointer (some ⟨b, 0, none⟩)) bs w' ∧ (w' = w ∨ w' = w.setCell ⟨b, 0, none⟩ (.pointer (some ⟨b, 0, none⟩))) := by
  rcases h with h | h
  · obtain ⟨j, hj, hjs⟩ := Option.map_eq_some_iff.1 info_b
    have hc := h.cell0
    have hsh := h.shape
    have hf := h.frozen0
    have hu := h.used
    have hB := h.1
    have HU := Lib.hid hu
    have HB := Lib.hid hB
    clear h hu hB
    go_enter Tryd.func100, Tryd.ntmps100
    go_wp2
    rw [Lib.run_to_unsafe w ⟨b, 0, none⟩ Tryd.underlying106 Tryd.underlying165 hj (by rw [hjs]; decide) hsh (Nat.zero_lt_succ 1)]
    simp only [Result.andThen]
    rw [Oper.upon_value]
    go_wp2
    rw [run_callFunc_extern Tryd.func133 (by kernel_rfl) (by kernel_rfl) (by kernel_rfl) (e := Extern.AbiNoEscape.same) (by kernel_rfl)]
    rw [Lib.run_noEscape]
    simp only [Result.andThen]
    rw [Oper.upon_value]
    go_wp2
    rw [Lib.run_from_unsafe w ⟨b, 0, none⟩ Tryd.underlying165 Tryd.underlying106 hj hsh lies_b]
    simp only [Result.andThen]
    rw [Oper.upon_value]
    go_wp2
    go_end0
    exact ⟨rfl, HU.out _, .inr rfl⟩
  · have hc := h.cell0
    have H := Lib.hid h
    clear h
    go_enter Tryd.func100, Tryd.ntmps100
    obtain ⟨j, hj, _⟩ := Option.map_eq_some_iff.1 info_b
    go_wp2
    rw [Lib.run_neq_ptr_same w _ Tryd.underlying106 hj]
    go_wp2
    go_end0
    exact ⟨rfl, H.out, .inl rfl⟩

theorem bbyteQ (B b : Nat) (bs : List Value) (c : Int) (w : World) (h : Lib.IsBuilder 109 5 B b bs w) (hlen : bs.length + 1 ≤ 140737488355328) (hBw : B ≤ w.heap.size) :
    Calls Tryd.prog 68 #[.pointer (some ⟨b, 0, none⟩), .int .u8 c] w fun e w' => e = .returned .nilIface ∧ Lib.BuilderAt 109 5 B b (.pointer (some ⟨b, 0, none⟩)) (bs ++ [.int .u8 c]) w' ∧ Below B w w' ∧ (∀ (q : Nat) (arr : Array Value) (f : Nat × Nat), f ≠ (0, 0) → w.heap[q]? = some (Obj.cells arr 5 f) → w'.heap[q]? = some (Obj.cells arr 5 f)) := by
  obtain ⟨i0, hi, hz0, hz1, hz2⟩ := info_parts info_byte
  go_enter Tryd.func68, Tryd.ntmps68
  go_wp2_with fail
  refine (bcheckX B b bs _ h).mono ?_
  rintro e w1 ⟨rfl, h1, hw1⟩
  have hBb := h1.1
  have hb1 : Below B w w1 := by
    rcases hw1 with rfl | rfl
    · exact Below.refl _ _
    · exact (Below.refl _ _).setCell (p := ⟨b, 0, none⟩) hBb _
  have hq1 : ∀ (q : Nat) (arr : Array Value) (f : Nat × Nat), f ≠ (0, 0) → w.heap[q]? = some (Obj.cells arr 5 f) → w1.heap[q]? = some (Obj.cells arr 5 f) := fun q arr f hf hq => by
    rcases hw1 with rfl | rfl
    · exact hq
    · by_cases hqb : q = b
      · subst hqb
        have hbk := h1.2
        obtain ⟨v, hv, _⟩ := hbk
        have e1 : (w.setCell ⟨q, 0, none⟩ (.pointer (some ⟨q, 0, none⟩))).heap[q]? = (w.heap[q]?).map fun o => match o with
          | .cells c t fr => .cells (c.setIfInBounds 0 (.pointer (some ⟨q, 0, none⟩))) t fr
          | o => o := by
          simp only [World.setCell, Array.getElem?_modify, if_true]
          rw [hq]; rfl
        rw [e1, hq] at hv
        simp at hv
      · rw [Below.heap_setCell _ _ _ _ hqb]; exact hq
  clear hw1
  obtain ⟨hB, v, hbk, hown, hne⟩ := h1
  have c0 : w1.cell? ⟨b, 0, none⟩ = some (.pointer (some ⟨b, 0, none⟩)) := by rw [Lib.cell_of_heap hbk]; rfl
  have c1 : w1.cell? ⟨b, 1, none⟩ = some v := by rw [Lib.cell_of_heap hbk]; rfl
  have hlt := lt_of_block hbk
  have hs1 := hb1.size
  have HBK := Lib.hid hbk
  have HOWN := Lib.hid hown
  have HQ1 := Lib.hid hq1
  clear hbk hown h hq1
  go_wp2_with (at_builtin; refine wpList_append_own _ rfl _ _ 107 rfl B 5 i0 (.int .u8 0) 1 1 Tryd.underlying107 hi hz0 hz1 hz2 rfl (by decide) _ _ _ rfl (HOWN.out.alloc _) ⟨w1.heap.size, 0, none⟩ 1 1 [.int .u8 c] rfl rfl ?c1 ?c2 ?c3 ?c4 ?c5 ?_)
  case c1 =>
    intro j u hj
    match j, hj with
    | 0, hj => simp at hj; subst hj; simp [Addr.add]
  case c2 => intro u hu; simp at hu; subst hu; rfl
  case c3 => unfold maxLen; omega
  case c4 => omega
  case c5 => simp; omega
  intro v' w2 hown' hgrow _
  have hb2 : w2.heap[b]? = some (.cells #[.pointer (some ⟨b, 0, none⟩), v] 109 (0, 0)) := by
    rw [hgrow.block b (by simp; omega) (fun e => hne e.symm), Lib.alloc_old w1 _ b hlt]
    exact HBK.out
  have d0 : w2.cell? ⟨b, 0, none⟩ = some (.pointer (some ⟨b, 0, none⟩)) := by rw [Lib.cell_of_heap hb2]; rfl
  have d1 : w2.cell? ⟨b, 1, none⟩ = some v := by rw [Lib.cell_of_heap hb2]; rfl
  have f1 : w2.frozen? ⟨b, 1, none⟩ = false := Lib.frozen_of_heap hb2 1
  obtain ⟨g, cap, rfl⟩ : ∃ g cap, v' = .slice (some ⟨g, 0, none⟩) (bs.length + 1) cap := by
    rcases hown'.2 with ⟨_, h0⟩ | ⟨g, cap, cur, hv, _⟩
    · omega
    · exact ⟨g, cap, hv⟩
  go_wp2
  go_ret
  refine ⟨rfl, ?_, ?_, fun q arr f hf hq => ?_⟩
  · exact Lib.BuilderAt.put (T := 109) (e := 5) hB hb2 (bs' := bs ++ [.int .u8 c]) (by simpa using hown') (by decide)
  · exact ((hb1.alloc (by omega) _).grown hgrow (by simp; omega) (fun k hk => (HOWN.out.lt k hk).1)).setCell (p := ⟨b, 1, none⟩) hB _
  · have q1 := HQ1.out q arr f hf hq
    have q2 : w2.heap[q]? = some (.cells arr 5 f) := by
      rw [hgrow.block q (by simp; have := lt_of_block q1; omega) (fun e => by
        rcases HOWN.out.2 with ⟨hv0, _⟩ | ⟨g, cap, cur, hv0, _, hg, _⟩
        · rw [hv0] at e; cases e
        · rw [hv0] at e
          obtain rfl : q = g := Option.some.inj e
          rw [q1] at hg
          simp at hg
          exact hf hg.2), Lib.alloc_old w1 _ q (lt_of_block q1)]
      exact q1
    have hqb : q ≠ b := fun e => by
      subst e
      rw [hb2] at q2
      simp at q2
    rw [Below.heap_setCell _ _ _ _ hqb]
    exact q2
end Go.Proofs.YtidmjepfpjfkoaaDoor

namespace Go.Proofs.YtidmjepfpjfkoaaDoor
open Go Go.RowKit
set_option maxHeartbeats 4000000
set_option maxRecDepth 20000
set_option linter.unusedVariables false
set_option linter.unusedSimpArgs false

namespace Km
def digits : ByteArray := ⟨#[48, 49, 50, 51, 52, 53, 54, 55, 56, 57, 65, 66, 67, 68, 69, 70]⟩
theorem digits_get (n : Nat) (hn : n < 16) : digits[n]'(by show n < 16; exact hn) = dig n := by
  have : ∀ m : Fin 16, digits[m.val]'(by show m.val < 16; exact m.isLt) = dig m.val := by decide
  exact this ⟨n, hn⟩
theorem esc_next {l : By} {k : Nat} (h : k < l.length) : esc (l.take (k + 1)) = esc (l.take k) ++ wr l[k] := by
  unfold esc
  rw [List.take_succ_eq_append_getElem h, List.flatMap_append]
  simp
end Km
theorem builder_below {T e : TypeId} {B b : Nat} {bs : List Value} {w w' : World} (h : Lib.IsBuilder T e B b bs w) (hb : Below w.heap.size w w') : Lib.IsBuilder T e B b bs w' := by
  have go : ∀ p, Lib.BuilderAt T e B b p bs w → Lib.BuilderAt T e B b p bs w' := fun p ⟨h1, v, h2, h3, h4⟩ =>
    ⟨h1, v, (hb.block b (lt_of_block h2)).trans h2, ⟨h3.1, h3.2.imp id fun ⟨g, cap, cur, e1, e2, e3, r⟩ => ⟨g, cap, cur, e1, e2, (hb.block g (lt_of_block e3)).trans e3, r⟩⟩, h4⟩
  exact h.imp (go _) (go _)
theorem run_index_dig (n : Nat) (hn : n < 16) (w : World) : (Instr.index 9 (.string ⟨#[48, 49, 50, 51, 52, 53, 54, 55, 56, 57, 65, 66, 67, 68, 69, 70]⟩) (.int .u8 (n : Int))).run Tryd.prog w = .ok (.int .u8 ((Km.dig n).toNat : Int)) w := by
  have hg := Km.digits_get n hn
  have hu := run_underlying Tryd.underlying9
  change (Instr.index 9 (.string Km.digits) (.int .u8 (n : Int))).run Tryd.prog w = _
  have hs : Km.digits.size = 16 := rfl
  have hget : Km.digits[n]? = some (Km.dig n) := by
    rw [← hg]; exact getElem?_pos Km.digits n (by rw [hs]; exact hn)
  simp [Instr.index, asIntOf, hu, hget]
theorem and15 (c : Nat) (hc : c < 256) : bits .and .u8 (c : Int) 15 = ((c % 16 : Nat) : Int) := by
  have h := (bits_nat .u8 8 (by decide) (fun n h0 h1 => by rw [IntKind.wrap_u8]; omega) c 15 (by omega) (by omega)).1
  have h2 : c &&& 15 = c % 16 := Nat.and_two_pow_sub_one_eq_mod c 4
  rw [h2] at h
  exact h

theorem hcell_of {w : World} {q : Nat} {arr : Array Value} {e : TypeId} {f : Nat × Nat} {k : Nat} {u : Value} (h : w.heap[q]? = some (.cells arr e f)) (hu : arr[k]? = some u) : w.cell? ⟨q, k, none⟩ = some u := by
  rw [cell_of_row _ _ _ _ _ _ h]; exact hu
theorem keyEscape (s : ByteArray) (hs : s.size ≤ 100000) (w : World) :
    Calls Tryd.prog 34 #[.string s] w fun e w' => e = .returned (.string ⟨(Km.esc s.data.toList).toArray⟩) ∧ Below w.heap.size w w' := by
  have hbf := Lib.fresh_isBuilder 109 5 w
  have hb0 : Below w.heap.size w (w.alloc (.cells #[.pointer none, .slice none 0 0] 109)) := (Below.refl _ _).alloc (Nat.le_refl _) _
  have hsA : (w.alloc (.cells #[.pointer none, .slice none 0 0] 109)).heap.size = w.heap.size + 1 := size_alloc _ _
  obtain ⟨l, hl⟩ : ∃ l, l = s.data.toList := ⟨_, rfl⟩
  obtain ⟨n, hn⟩ : ∃ n, n = s.size := ⟨_, rfl⟩
  have hll : l.length = n := by rw [hl, hn]; rfl
  obtain ⟨R, hR⟩ : ∃ R, R = Km.esc l := ⟨_, rfl⟩
  rw [← hl, ← hR]
  have HhR := Lib.hid hR
  clear hR
  go_enter Tryd.func34, Tryd.ntmps34
  go_wp2_with (refine kl_bytes2 rfl 9 107 5 _ rfl Tryd.underlying9 Tryd.underlying107 Tryd.underlying5 s rfl ?_; intro cap w1 arr f hcap hbel hsz hf hblk hcells)
  generalize w.alloc (.cells #[.pointer none, .slice none 0 0] 109) = wA at *
  have hbu := builder_below hbf hbel
  have hb1 := hb0.trans (hbel.mono (by omega))
  rw [hsA] at hbel hsz hblk
  rw [← hn] at hs hcap ⊢
  rw [← hl] at hcells
  obtain ⟨q, hq⟩ : ∃ q, q = w.heap.size + 1 := ⟨_, rfl⟩
  rw [← hq] at hblk hsz ⊢
  have hqs : w.heap.size ≤ q := by omega
  have Hhcells := Lib.hid hcells
  have Hhbu := Lib.hid hbu
  have Hhll := Lib.hid hll
  have Hhq := Lib.hid hq
  clear hcells hbu hll hq
  clear hbf hb0 hsA hbel hl hn
  go_wp2_with fail
  go_loopw [9] (fun iv wr => ∃ k : Nat, k ≤ n ∧ iv = .int .i64 (k : Int) ∧ Hid (Lib.IsBuilder 109 5 w.heap.size w.heap.size (Lib.byteCells (Km.esc (l.take k))) wr) ∧ wr.heap[q]? = some (.cells arr 5 f) ∧ w.heap.size ≤ wr.heap.size ∧ Hid (Below w.heap.size w wr)) (fun iv _ => n - (intOf iv).toNat)
  case atStart => exact ⟨0, by omega, rfl, Hhbu.out, hblk, by omega, hb1⟩
  case round =>
    obtain ⟨k, hk, rfl, HB, hQ, hsz2, HW⟩ := hrel
    have hbk : (0 : Int) ≤ k := by omega
    by_cases hkn : k < n
    · have hkl : k < l.length := by rw [Hhll.out]; exact hkn
      have hx := hcell_of hQ (Hhcells.out k _ (List.getElem?_eq_getElem hkl))
      have hnx := Km.esc_next hkl
      have hle := Km.esc_le (l.take k)
      have hlt : (l.take k).length ≤ 100000 := by simp; omega
      obtain ⟨c, hc⟩ : ∃ c, c = l[k] := ⟨_, rfl⟩
      rw [← hc] at hx hnx
      have hst := keyStays c wr
      have hwr : Km.wr c = if Km.stays c then [c] else [37, Km.dig (c.toNat / 16), Km.dig (c.toNat % 16)] := rfl
      have hc256 := c.toNat_lt
      obtain ⟨st, hstt⟩ : ∃ b, b = Km.stays c := ⟨_, rfl⟩
      rw [← hstt] at hst hwr
      obtain ⟨m, hm⟩ : ∃ m, m = c.toNat := ⟨_, rfl⟩
      have hbl : (Lib.byteCells (Km.esc (l.take k))).length ≤ 300000 := by rw [Lib.byteCells_length]; omega
      rw [← hm] at hst hx hc256
      have hkn2 : (k : Int) < n := by omega
      have Hhst := Lib.hid hst
      have Hhnx := Lib.hid hnx
      have Hhwr := Lib.hid hwr
      have Hhc256 := Lib.hid hc256
      have Hhbl := Lib.hid hbl
      have Hhm := Lib.hid hm
      clear hst hnx hwr hc256 hbl hm
      clear hc hstt hle hlt
      go_wp2_with fail
      refine Hhst.out.mono ?_
      rintro e w2 ⟨rfl, rfl⟩
      cases st with
      | true =>
        go_wp2_with fail
        refine (bbyteQ _ _ _ _ _ HB.out (by have := Hhbl.out; omega) hsz2).mono ?_
        rintro e w3 ⟨rfl, kb, kw, kq⟩
        have hfin : Hid (Lib.IsBuilder 109 5 w.heap.size w.heap.size (Lib.byteCells (Km.esc (l.take (k + 1)))) w3) := by
          show Lib.IsBuilder _ _ _ _ _ _
          have hw1 : Km.wr c = [c] := by have := Hhwr.out; simpa using this
          rw [Hhnx.out, hw1, Lib.byteCells_append]
          have : Lib.byteCells [c] = [.int .u8 (m : Int)] := by rw [Hhm.out]; rfl
          rw [this]
          exact .inr kb
        have hQ3 := kq q arr f hf hQ
        have hs3 := kw.size
        have HW3 : Hid (Below w.heap.size w w3) := HW.out.trans kw
        clear kb kw kq
        go_wp2_with fail
        go_roundw
        case rel => exact ⟨k + 1, by omega, by go_num, hfin, hQ3, by omega, HW3⟩
        case measure => simp [intOf]; omega
      | false =>
        have hm256 := Hhc256.out
        have i1 := run_index_dig (m / 16) (by omega)
        have i2 := run_index_dig (m % 16) (by omega)
        have hwr2 : Km.wr c = [37, Km.dig (m / 16), Km.dig (m % 16)] := by have := Hhwr.out; rw [Hhm.out]; simpa using this
        generalize Km.dig (m / 16) = x1 at *
        generalize Km.dig (m % 16) = x2 at *
        have hshr : ((m : Int) / 16) = ((m / 16 : Nat) : Int) := by omega
        have hand : bits .and .u8 (m : Int) 15 = ((m % 16 : Nat) : Int) := and15 m (by omega)
        obtain ⟨y1, hy1⟩ : ∃ y, y = m / 16 := ⟨_, rfl⟩
        obtain ⟨y2, hy2⟩ : ∃ y, y = m % 16 := ⟨_, rfl⟩
        rw [← hy1] at hshr i1
        rw [← hy2] at hand i2
        have hl1 : (y1 : Int) < 16 := by omega
        have hl2 : (y2 : Int) < 16 := by omega
        clear hy1 hy2 hm256
        have Hhwr2 := Lib.hid hwr2
        clear hwr2
        go_wp2_with fail
        refine (bbyteQ _ _ _ _ _ HB.out (by have := Hhbl.out; omega) hsz2).mono ?_
        rintro e w3 ⟨rfl, kb, kw, kq⟩
        have hQ3 := kq q arr f hf hQ
        have hs3 : w.heap.size ≤ w3.heap.size := by have := kw.size; omega
        have HW3 : Hid (Below w.heap.size w w3) := HW.out.trans kw
        have KB3 := Lib.hid kb
        clear kb kw kq hQ hx HB HW
        go_wp2_with fail
        refine (bbyteQ _ _ _ _ _ (.inr KB3.out) (by have := Hhbl.out; simp; omega) hs3).mono ?_
        rintro e w4 ⟨rfl, kb, kw, kq⟩
        have hQ4 := kq q arr f hf hQ3
        have hs4 : w.heap.size ≤ w4.heap.size := by have := kw.size; omega
        have HW4 : Hid (Below w.heap.size w w4) := HW3.out.trans kw
        have KB4 := Lib.hid kb
        clear kb kw kq hQ3 KB3 HW3
        go_wp2_with fail
        refine (bbyteQ _ _ _ _ _ (.inr KB4.out) (by have := Hhbl.out; simp; omega) hs4).mono ?_
        rintro e w5 ⟨rfl, kb, kw, kq⟩
        have hQ5 := kq q arr f hf hQ4
        have hs5 : w.heap.size ≤ w5.heap.size := by have := kw.size; omega
        have HW5 : Hid (Below w.heap.size w w5) := HW4.out.trans kw
        have hfin : Hid (Lib.IsBuilder 109 5 w.heap.size w.heap.size (Lib.byteCells (Km.esc (l.take (k + 1)))) w5) := by
          show Lib.IsBuilder _ _ _ _ _ _
          rw [Hhnx.out, Hhwr2.out, Lib.byteCells_append]
          have : Lib.byteCells [37, x1, x2] = [.int .u8 37] ++ [.int .u8 (x1.toNat : Int)] ++ [.int .u8 (x2.toNat : Int)] := rfl
          rw [this, ← List.append_assoc, ← List.append_assoc]
          exact .inr kb
        clear kb kw kq hQ4 KB4 HW4 i1 i2 hshr hand
        go_wp2_with fail
        go_roundw
        case rel => exact ⟨k + 1, by omega, by go_num, hfin, hQ5, hs5, HW5⟩
        case measure => simp [intOf]; omega
    · obtain rfl : k = n := by omega
      have hkn2 : ¬ (k : Int) < k := by omega
      have hst := Tryd.Builder_String_any w.heap.size w.heap.size (Km.esc (l.take k)) wr HB.out hsz2
      rw [show Km.esc (l.take k) = R by rw [HhR.out, ← Hhll.out, List.take_length]] at hst
      have Hhst := Lib.hid hst
      clear hst
      go_wp2_with fail
      refine Hhst.out.mono ?_
      rintro e w4 ⟨rfl, kb⟩
      go_wp2_with fail
      go_ret
      exact ⟨rfl, HW.out.trans kb⟩
end Go.Proofs.YtidmjepfpjfkoaaDoor

namespace Go.Proofs.YtidmjepfpjfkoaaDoor
open Go Go.RowKit
set_option maxHeartbeats 4000000
set_option maxRecDepth 20000
set_option linter.unusedVariables false
set_option linter.unusedSimpArgs false

namespace Km
theorem idx_val (a : UInt8) : Lib.indexByte digits.data.toList a = match val a with | some x => (x : Int) | none => -1 :=
  all_bytes (p := fun a => Lib.indexByte digits.data.toList a = match val a with | some x => (x : Int) | none => -1) (by decide +kernel) a
theorem val_lt {a : UInt8} {x : Nat} (h : val a = some x) : x < 16 := by
  unfold val at h
  split at h
  · obtain rfl := Option.some.inj h; omega
  · split at h
    · obtain rfl := Option.some.inj h; omega
    · cases h
theorem un_end {l : By} {i : Nat} (h : l.length ≤ i) : un (l.drop i) = some [] := by rw [List.drop_of_length_le h]; rfl
theorem hd_at {l : By} {i : Nat} (h : i < l.length) : hd (l.drop i) = if l[i] = 37 then hd3 (l.drop (i + 1)) else if stays l[i] then some (l[i], 1) else none := by
  rw [List.drop_eq_getElem_cons h, hd]
theorem hd3_short {l : By} {i : Nat} (h : l.length ≤ i + 2) : hd3 (l.drop (i + 1)) = none := by
  have h2 : (l.drop (i + 1)).length ≤ 1 := by simp; omega
  match l.drop (i + 1), h2 with
  | [], _ => rfl
  | [_], _ => rfl
theorem hd3_at {l : By} {i : Nat} (h : i + 2 < l.length) : hd3 (l.drop (i + 1)) = match val l[i + 1], val l[i + 2] with
    | some x, some y => if stays (UInt8.ofNat (16 * x + y)) then none else some (UInt8.ofNat (16 * x + y), 3)
    | _, _ => none := by
  rw [List.drop_eq_getElem_cons (show i + 1 < l.length by omega), List.drop_eq_getElem_cons (show i + 1 + 1 < l.length by omega), hd3]
  all_goals rfl
theorem un_no {l : By} {i : Nat} (h : i < l.length) (hh : hd (l.drop i) = none) : un (l.drop i) = none := by
  rw [List.drop_eq_getElem_cons h] at hh ⊢
  exact un_none hh
end Km
theorem run_index_str (s : ByteArray) (i : Nat) (c : UInt8) (h : s.data.toList[i]? = some c) (w : World) : (Instr.index 9 (.string s) (.int .i64 (i : Int))).run Tryd.prog w = .ok (.int .u8 (c.toNat : Int)) w := by
  have hu := run_underlying Tryd.underlying9
  have hi : i < s.size := (List.getElem?_eq_some_iff.1 h).1
  have hget : s[i]? = some c := by
    rw [getElem?_pos s i hi]
    obtain ⟨h1, h2⟩ := List.getElem?_eq_some_iff.1 h
    rw [← h2]
    rfl
  simp [Instr.index, asIntOf, hu, hget]

theorem or_16 (x y : Nat) (hx : x < 16) (hy : y < 16) : bits .or .i64 ((x : Int) * 16) (y : Int) % 256 = ((16 * x + y : Nat) : Int) := by
  have h := (bits_nat .i64 8 (by decide) (fun n h0 h1 => by rw [IntKind.wrap_i64]; omega) (16 * x) y (by omega) (by omega)).2
  have h2 : ∀ a b : Fin 16, 16 * a.val ||| b.val = 16 * a.val + b.val := by decide
  rw [show ((x : Int) * 16) = ((16 * x : Nat) : Int) by omega, h, h2 ⟨x, hx⟩ ⟨y, hy⟩]
  show ((16 * x + y : Nat) : Int) % 256 = _
  omega
theorem keyUnescape (s : ByteArray) (hs : s.size ≤ 100000) (w : World) :
    Calls Tryd.prog 27 #[.string s] w fun e w' => e = .returned (.tuple #[.string ⟨(Km.unS s.data.toList).toArray⟩, .int .i64 (Km.unE s.data.toList : Nat)]) ∧ Below w.heap.size w w' := by
  have hbf := Lib.fresh_isBuilder 109 5 w
  have hb0 : Below w.heap.size w (w.alloc (.cells #[.pointer none, .slice none 0 0] 109)) := (Below.refl _ _).alloc (Nat.le_refl _) _
  have hsA : w.heap.size ≤ (w.alloc (.cells #[.pointer none, .slice none 0 0] 109)).heap.size := by rw [size_alloc]; omega
  obtain ⟨l, hl⟩ : ∃ l, l = s.data.toList := ⟨_, rfl⟩
  obtain ⟨n, hn⟩ : ∃ n, n = s.size := ⟨_, rfl⟩
  have hll : l.length = n := by rw [hl, hn]; rfl
  have hbad : Km.un l = none → Km.unS l = [] ∧ Km.unE l = 2 := fun h => ⟨by unfold Km.unS; rw [h]; rfl, by unfold Km.unE; rw [if_pos h]⟩
  have hgood : ∀ m, Km.un l = some m → Km.unS l = m ∧ Km.unE l = 0 := fun m h => ⟨by unfold Km.unS; rw [h]; rfl, by unfold Km.unE; rw [if_neg (by rw [h]; simp)]⟩
  rw [← hl]
  obtain ⟨S, hS⟩ : ∃ S : ByteArray, S = ⟨(Km.unS l).toArray⟩ := ⟨_, rfl⟩
  obtain ⟨E, hE⟩ : ∃ E, E = Km.unE l := ⟨_, rfl⟩
  rw [← hS, ← hE]
  rw [← hn] at hs
  have hidx := fun (i : Nat) (c : UInt8) (h : l[i]? = some c) (w : World) => run_index_str s i c (by rw [← hl]; exact h) w
  have Hhbf := Lib.hid hbf
  have Hhll := Lib.hid hll
  have Hhbad := Lib.hid hbad
  have Hhgood := Lib.hid hgood
  have HhS := Lib.hid hS
  have HhE := Lib.hid hE
  have Hhidx := Lib.hid hidx
  clear hbf hll hbad hgood hS hE hidx
  clear hl
  go_enter Tryd.func27, Tryd.ntmps27
  go_wp2_with fail
  generalize w.alloc (.cells #[.pointer none, .slice none 0 0] 109) = wA at *
  have hns : (s.size : Int) = n := by omega
  go_loopw [5] (fun iv wr => ∃ (i : Nat) (m : List UInt8), i ≤ n ∧ iv = .int .i64 (i : Int) ∧ Hid (Km.un l = (Km.un (l.drop i)).map (m ++ ·)) ∧ Hid (Lib.IsBuilder 109 5 w.heap.size w.heap.size (Lib.byteCells m) wr) ∧ Hid (m.length ≤ i) ∧ w.heap.size ≤ wr.heap.size ∧ Hid (Below w.heap.size w wr)) (fun iv _ => n - (intOf iv).toNat)
  case atStart =>
    refine ⟨0, [], by omega, rfl, ?_, Hhbf.out, Nat.le_refl _, hsA, hb0⟩
    show Km.un l = (Km.un l).map ([] ++ ·)
    cases Km.un l <;> rfl
  case round =>
    obtain ⟨i, m, hi, rfl, HU, HB, HM, hsz, HW⟩ := hrel
    have hbi : (0 : Int) ≤ i := by omega
    by_cases hin : i < n
    · have hil : i < l.length := by rw [Hhll.out]; exact hin
      have hbn : (i : Int) < n := by omega
      have hx := Hhidx.out i _ (List.getElem?_eq_getElem hil)
      have hhd := Km.hd_at hil
      obtain ⟨c, hc⟩ : ∃ c, c = l[i] := ⟨_, rfl⟩
      rw [← hc] at hx hhd
      have hbadN : Km.hd (l.drop i) = none → S = ⟨#[]⟩ ∧ E = 2 := fun h => by
        have h1 : Km.un l = none := by rw [HU.out, Km.un_no hil h]; rfl
        obtain ⟨h2, h3⟩ := Hhbad.out h1
        exact ⟨by rw [HhS.out, h2], by rw [HhE.out, h3]⟩
      have Hhhd := Lib.hid hhd
      have HhbadN := Lib.hid hbadN
      clear hhd hbadN
      by_cases hp : c = 37
      · have hcn : (c.toNat : Int) = 37 := by rw [hp]; rfl
        rw [hcn] at hx
        by_cases hsh : (n : Int) ≤ i + 2
        · obtain ⟨e1, e2⟩ := HhbadN.out (by rw [Hhhd.out, if_pos hp, Km.hd3_short (by rw [Hhll.out]; omega)])
          have E1 := Lib.hid e1
          have E2 := Lib.hid e2
          clear hc hp e1 e2 hcn
          go_wp2_with fail
          refine bodyPost_ret (results_tmp2 rfl _ _ _) rfl ?_
          exact ⟨by rw [E1.out, E2.out]; rfl, HW.out⟩
        · have hl2 : i + 2 < l.length := by rw [Hhll.out]; omega
          have hx1 := Hhidx.out (i + 1) _ (List.getElem?_eq_getElem (show i + 1 < l.length by omega))
          have hx2 := Hhidx.out (i + 2) _ (List.getElem?_eq_getElem hl2)
          have hhd2 : Km.hd (l.drop i) = match Km.val l[i + 1], Km.val l[i + 2] with
            | some x, some y => if Km.stays (UInt8.ofNat (16 * x + y)) then none else some (UInt8.ofNat (16 * x + y), 3)
            | _, _ => none := by rw [Hhhd.out, if_pos hp, Km.hd3_at hl2]
          generalize l[i + 1] = a at *
          generalize l[i + 2] = b at *
          have ia : ∀ wS, Calls Tryd.prog 66 #[.string ⟨#[48, 49, 50, 51, 52, 53, 54, 55, 56, 57, 65, 66, 67, 68, 69, 70]⟩, .int .u8 (a.toNat : Int)] wS fun e w' => e = .returned (.int .i64 (match Km.val a with | some x => (x : Int) | none => -1)) ∧ Below wS.heap.size wS w' := fun wS => (Tryd.strings_IndexByte ⟨#[48, 49, 50, 51, 52, 53, 54, 55, 56, 57, 65, 66, 67, 68, 69, 70]⟩ (a.toNat : Int) wS).mono fun e w' ⟨h1, h2⟩ => ⟨by
            rw [h1, show ((a.toNat : Int).toNat.toUInt8) = a by simp]
            exact congrArg (fun z => Ending.returned (Value.int .i64 z)) (Km.idx_val a), by rw [h2]; exact Below.refl _ _⟩
          have ib : ∀ wS, Calls Tryd.prog 66 #[.string ⟨#[48, 49, 50, 51, 52, 53, 54, 55, 56, 57, 65, 66, 67, 68, 69, 70]⟩, .int .u8 (b.toNat : Int)] wS fun e w' => e = .returned (.int .i64 (match Km.val b with | some x => (x : Int) | none => -1)) ∧ Below wS.heap.size wS w' := fun wS => (Tryd.strings_IndexByte ⟨#[48, 49, 50, 51, 52, 53, 54, 55, 56, 57, 65, 66, 67, 68, 69, 70]⟩ (b.toNat : Int) wS).mono fun e w' ⟨h1, h2⟩ => ⟨by
            rw [h1, show ((b.toNat : Int).toNat.toUInt8) = b by simp]
            exact congrArg (fun z => Ending.returned (Value.int .i64 z)) (Km.idx_val b), by rw [h2]; exact Below.refl _ _⟩
          have hva := fun x => Km.val_lt (a := a) (x := x)
          have hvb := fun x => Km.val_lt (a := b) (x := x)
          obtain ⟨X, hX⟩ : ∃ X : Int, X = (match Km.val a with | some x => (x : Int) | none => -1) := ⟨_, rfl⟩
          obtain ⟨Y, hY⟩ : ∃ Y : Int, Y = (match Km.val b with | some x => (x : Int) | none => -1) := ⟨_, rfl⟩
          rw [← hX] at ia
          rw [← hY] at ib
          generalize (a.toNat : Int) = na at *
          generalize (b.toNat : Int) = nb at *
          have w1 : IntKind.i64.wrap ((i : Int) + 1) = (i : Int) + 1 := by simp [IntKind.wrap, IntKind.bits, IntKind.signed]; omega
          have w2 : IntKind.i64.wrap ((i : Int) + 2) = (i : Int) + 2 := by simp [IntKind.wrap, IntKind.bits, IntKind.signed]; omega
          rw [show ((i + 1 : Nat) : Int) = (i : Int) + 1 by omega] at hx1
          rw [show ((i + 2 : Nat) : Int) = (i : Int) + 2 by omega] at hx2
          have Kw := Lib.hid (Kn.start wr)
          have Hhhd2 := Lib.hid hhd2
          have Hia := Lib.hid ia
          have Hib := Lib.hid ib
          have Hhva := Lib.hid hva
          have Hhvb := Lib.hid hvb
          have HhX := Lib.hid hX
          have HhY := Lib.hid hY
          clear hhd2 ia ib hva hvb hX hY
          clear hc hcn hl2
          go_wp2_with fail
          refine wp_region_abs wr.heap.size wr [] ((true, 0) :: (true, 1) :: (true, 2) :: (true, 3) :: (true, 4) :: (true, 5) :: (true, 6) :: (true, 7) :: (true, 8) :: (true, 9) :: (false, 10) :: (false, 11) :: []) (by kernel_rfl) (by kernel_rfl) Kw.out.drew ?_
          clear Kw
          (apply ab_pure
           · (simp only [List.getElem?_toArray, List.getElem?_cons_succ, List.getElem?_cons_zero]; rfl)
           · rfl
           · (intro wS hS; go_simp; try exact rfl)
           simp only [Act.put, List.setIfInBounds_toArray, List.set_cons_zero, List.set_cons_succ])
          (apply ab_pure
           · (simp only [List.getElem?_toArray, List.getElem?_cons_succ, List.getElem?_cons_zero]; rfl)
           · rfl
           · (intro wS hS; go_simp; try exact rfl)
           simp only [Act.put, List.setIfInBounds_toArray, List.set_cons_zero, List.set_cons_succ])
          (apply ab_pure
           · (simp only [List.getElem?_toArray, List.getElem?_cons_succ, List.getElem?_cons_zero]; rfl)
           · rfl
           · (intro wS hS; go_simp; try exact rfl)
           simp only [Act.put, List.setIfInBounds_toArray, List.set_cons_zero, List.set_cons_succ])
          (apply ab_pure
           · (simp only [List.getElem?_toArray, List.getElem?_cons_succ, List.getElem?_cons_zero]; rfl)
           · rfl
           · (intro wS hS; go_simp; try exact rfl)
           simp only [Act.put, List.setIfInBounds_toArray, List.set_cons_zero, List.set_cons_succ])
          (apply ab_call
           · (simp only [List.getElem?_toArray, List.getElem?_cons_succ, List.getElem?_cons_zero]; rfl)
           · rfl
           · (intro _; go_simp; first | exact ⟨rfl, rfl⟩ | exact rfl)
           · (intro wS hS; exact Hia.out wS)
           simp only [Act.put, List.setIfInBounds_toArray, List.set_cons_zero, List.set_cons_succ])
          (apply ab_pure
           · (simp only [List.getElem?_toArray, List.getElem?_cons_succ, List.getElem?_cons_zero]; rfl)
           · rfl
           · (intro wS hS; go_simp; try exact rfl)
           simp only [Act.put, List.setIfInBounds_toArray, List.set_cons_zero, List.set_cons_succ])
          (apply ab_pure
           · (simp only [List.getElem?_toArray, List.getElem?_cons_succ, List.getElem?_cons_zero]; rfl)
           · rfl
           · (intro wS hS; go_simp; try exact rfl)
           simp only [Act.put, List.setIfInBounds_toArray, List.set_cons_zero, List.set_cons_succ])
          (apply ab_pure
           · (simp only [List.getElem?_toArray, List.getElem?_cons_succ, List.getElem?_cons_zero]; rfl)
           · rfl
           · (intro wS hS; go_simp; try exact rfl)
           simp only [Act.put, List.setIfInBounds_toArray, List.set_cons_zero, List.set_cons_succ])
          (apply ab_pure
           · (simp only [List.getElem?_toArray, List.getElem?_cons_succ, List.getElem?_cons_zero]; rfl)
           · rfl
           · (intro wS hS; go_simp; try exact rfl)
           simp only [Act.put, List.setIfInBounds_toArray, List.set_cons_zero, List.set_cons_succ])
          (apply ab_call
           · (simp only [List.getElem?_toArray, List.getElem?_cons_succ, List.getElem?_cons_zero]; rfl)
           · rfl
           · (intro _; go_simp; first | exact ⟨rfl, rfl⟩ | exact rfl)
           · (intro wS hS; exact Hib.out wS)
           simp only [Act.put, List.setIfInBounds_toArray, List.set_cons_zero, List.set_cons_succ])
          (apply ab_loud
           · (simp only [List.getElem?_toArray, List.getElem?_cons_succ, List.getElem?_cons_zero]; rfl)
           · rfl
           intro wS hS
           go_wp2_with fail)
          refine ab_on _ (fun x hx => hx) hS ?_
          clear hS wS
          (apply ab_loud
           · (simp only [List.getElem?_toArray, List.getElem?_cons_succ, List.getElem?_cons_zero]; rfl)
           · rfl
           intro wS hS
           go_wp2_with fail)
          refine ab_on _ (fun x hx => hx) hS (ab_end ?_)
          intro wE hE
          have KE := Lib.hid hE
          clear hE hS hx hx1 hx2 w1 w2
          have HBE := Lib.hid (builder_below HB.out KE.out.below)
          have hszE : w.heap.size ≤ wE.heap.size := Nat.le_trans hsz KE.out.below.size
          have HWE : Hid (Below w.heap.size w wE) := HW.out.trans (KE.out.below.mono hsz)
          clear HB hsz HW KE
          cases hva2 : Km.val a with
          | none =>
            obtain rfl : X = -1 := by rw [HhX.out, hva2]
            obtain ⟨e1, e2⟩ := HhbadN.out (by rw [Hhhd2.out, hva2])
            have E1 := Lib.hid e1
            have E2 := Lib.hid e2
            clear e1 e2 hva2
            go_wp2_with fail
            refine bodyPost_ret (results_tmp2 rfl _ _ _) rfl ?_
            exact ⟨by rw [E1.out, E2.out]; rfl, HWE.out⟩
          | some x =>
            obtain rfl : X = (x : Int) := by rw [HhX.out, hva2]
            have hx16 : (x : Int) < 16 := by have := Hhva.out x hva2; omega
            cases hvb2 : Km.val b with
            | none =>
              obtain rfl : Y = -1 := by rw [HhY.out, hvb2]
              obtain ⟨e1, e2⟩ := HhbadN.out (by rw [Hhhd2.out, hva2, hvb2])
              have E1 := Lib.hid e1
              have E2 := Lib.hid e2
              clear e1 e2 hva2 hvb2
              go_wp2_with fail
              refine bodyPost_ret (results_tmp2 rfl _ _ _) rfl ?_
              exact ⟨by rw [E1.out, E2.out]; rfl, HWE.out⟩
            | some y =>
              obtain rfl : Y = (y : Int) := by rw [HhY.out, hvb2]
              have hy16 : (y : Int) < 16 := by have := Hhvb.out y hvb2; omega
              have hhd3 : Km.hd (l.drop i) = if Km.stays (UInt8.ofNat (16 * x + y)) then none else some (UInt8.ofNat (16 * x + y), 3) := by rw [Hhhd2.out, hva2, hvb2]
              have hor := or_16 x y (by omega) (by omega)
              have hst := keyStays (UInt8.ofNat (16 * x + y)) wE
              have hcn2 : (UInt8.ofNat (16 * x + y)).toNat = 16 * x + y := by rw [UInt8.toNat_ofNat']; omega
              obtain ⟨c2, hc2⟩ : ∃ c, c = UInt8.ofNat (16 * x + y) := ⟨_, rfl⟩
              rw [← hc2] at hst hhd3 hcn2
              obtain ⟨z, hz⟩ : ∃ z, z = 16 * x + y := ⟨_, rfl⟩
              rw [hcn2, ← hz] at hst
              rw [← hz] at hor hcn2
              obtain ⟨st, hstt⟩ : ∃ b, b = Km.stays c2 := ⟨_, rfl⟩
              rw [← hstt] at hst hhd3
              have hx0 : ¬ ((x : Int) < 0) := by omega
              have hy0 : ¬ ((y : Int) < 0) := by omega
              have Hhhd3 := Lib.hid hhd3
              have Hhst := Lib.hid hst
              have Hhcn2 := Lib.hid hcn2
              have Hhc2 := Lib.hid hc2
              have Hhz := Lib.hid hz
              have Hhstt := Lib.hid hstt
              clear hhd3 hst hcn2 hc2 hz hstt
              clear hva2 hvb2
              go_wp2_with fail
              refine Hhst.out.mono ?_
              rintro e w2 ⟨rfl, rfl⟩
              cases st with
              | true =>
                obtain ⟨e1, e2⟩ := HhbadN.out (by have := Hhhd3.out; simpa using this)
                have E1 := Lib.hid e1
                have E2 := Lib.hid e2
                clear e1 e2
                go_wp2_with fail
                refine bodyPost_ret (results_tmp2 rfl _ _ _) rfl ?_
                exact ⟨by rw [E1.out, E2.out]; rfl, HWE.out⟩
              | false =>
                have hh : Km.hd (l.drop i) = some (c2, 3) := by have := Hhhd3.out; simpa using this
                have hun := Km.un_some hh
                rw [List.drop_drop] at hun
                have HU2 : Hid (Km.un l = (Km.un (l.drop (i + 3))).map ((m ++ [c2]) ++ ·)) := by
                  show _ = _
                  rw [HU.out, hun]
                  cases Km.un (l.drop (i + 3)) <;> simp
                clear hh hun
                go_wp2_with fail
                refine (bbyteQ _ _ _ _ _ HBE.out (by rw [Lib.byteCells_length]; have := HM.out; omega) hszE).mono ?_
                rintro e w3 ⟨rfl, kb, kw, kq⟩
                have hfin : Hid (Lib.IsBuilder 109 5 w.heap.size w.heap.size (Lib.byteCells (m ++ [c2])) w3) := by
                  show Lib.IsBuilder _ _ _ _ _ _
                  rw [Lib.byteCells_append]
                  have : Lib.byteCells [c2] = [.int .u8 (z : Int)] := by rw [← Hhcn2.out]; rfl
                  rw [this]
                  exact .inr kb
                have hs3 : w.heap.size ≤ w3.heap.size := by have := kw.size; omega
                have HW3 : Hid (Below w.heap.size w w3) := HWE.out.trans kw
                have HM3 : Hid ((m ++ [c2]).length ≤ i + 3) := by show _ ≤ _; have := HM.out; simp; omega
                clear kb kw kq
                go_wp2_with fail
                go_roundw
                case rel => exact ⟨i + 3, m ++ [c2], by omega, by go_num, HU2, hfin, HM3, hs3, HW3⟩
                case measure => simp [intOf]; omega
      · have hst := keyStays c wr
        obtain ⟨st, hstt⟩ : ∃ b, b = Km.stays c := ⟨_, rfl⟩
        rw [← hstt] at hst
        have hcp : ((c.toNat : Int) == 37) = false := by
          rw [beq_eq_false_iff_ne]
          intro h
          exact hp (by apply UInt8.toNat_inj.1; have : c.toNat = 37 := by omega
                       rw [this]; rfl)
        have hhd2 : Km.hd (l.drop i) = if st then some (c, 1) else none := by rw [Hhhd.out, if_neg hp, hstt]
        obtain ⟨z, hz⟩ : ∃ z, z = c.toNat := ⟨_, rfl⟩
        rw [← hz] at hst hx hcp
        have Hhst := Lib.hid hst
        have Hhhd2 := Lib.hid hhd2
        have Hhz := Lib.hid hz
        have Hhstt := Lib.hid hstt
        clear hst hhd2 hz hstt
        clear hc hp
        go_wp2_with fail
        refine Hhst.out.mono ?_
        rintro e w2 ⟨rfl, rfl⟩
        cases st with
        | false =>
          obtain ⟨e1, e2⟩ := HhbadN.out (by have := Hhhd2.out; simpa using this)
          have E1 := Lib.hid e1
          have E2 := Lib.hid e2
          clear e1 e2
          go_wp2_with fail
          refine bodyPost_ret (results_tmp2 rfl _ _ _) rfl ?_
          exact ⟨by rw [E1.out, E2.out]; rfl, HW.out⟩
        | true =>
          have hh : Km.hd (l.drop i) = some (c, 1) := by have := Hhhd2.out; simpa using this
          have hun := Km.un_some hh
          rw [List.drop_drop] at hun
          have HU2 : Hid (Km.un l = (Km.un (l.drop (i + 1))).map ((m ++ [c]) ++ ·)) := by
            show _ = _
            rw [HU.out, hun]
            cases Km.un (l.drop (i + 1)) <;> simp
          clear hh hun
          go_wp2_with fail
          refine (bbyteQ _ _ _ _ _ HB.out (by rw [Lib.byteCells_length]; have := HM.out; omega) hsz).mono ?_
          rintro e w3 ⟨rfl, kb, kw, kq⟩
          have hfin : Hid (Lib.IsBuilder 109 5 w.heap.size w.heap.size (Lib.byteCells (m ++ [c])) w3) := by
            show Lib.IsBuilder _ _ _ _ _ _
            rw [Lib.byteCells_append]
            have : Lib.byteCells [c] = [.int .u8 (z : Int)] := by rw [Hhz.out]; rfl
            rw [this]
            exact .inr kb
          have hs3 : w.heap.size ≤ w3.heap.size := by have := kw.size; omega
          have HW3 : Hid (Below w.heap.size w w3) := HW.out.trans kw
          have HM3 : Hid ((m ++ [c]).length ≤ i + 1) := by show _ ≤ _; have := HM.out; simp; omega
          clear kb kw kq
          go_wp2_with fail
          go_roundw
          case rel => exact ⟨i + 1, m ++ [c], by omega, by go_num, HU2, hfin, HM3, hs3, HW3⟩
          case measure => simp [intOf]; omega
    · obtain rfl : i = n := by omega
      have hbn : ¬ (i : Int) < i := by omega
      have hst := Tryd.Builder_String_any w.heap.size w.heap.size m wr HB.out hsz
      have h1 : Km.un l = some m := by rw [HU.out, Km.un_end (by rw [Hhll.out]; omega)]; simp
      obtain ⟨h2, h3⟩ := Hhgood.out m h1
      have hSm : S = ⟨m.toArray⟩ := by rw [HhS.out, h2]
      have hE0 : E = 0 := by rw [HhE.out, h3]
      rw [← hSm] at hst
      have Hhst := Lib.hid hst
      have HhE0 := Lib.hid hE0
      clear hst hE0
      clear h1 h2 h3 hSm
      go_wp2_with fail
      refine Hhst.out.mono ?_
      rintro e w4 ⟨rfl, kb⟩
      go_wp2_with fail
      refine bodyPost_ret (results_tmp2 rfl _ _ _) rfl ?_
      exact ⟨by rw [HhE0.out]; rfl, HW.out.trans kb⟩
end Go.Proofs.YtidmjepfpjfkoaaDoor
