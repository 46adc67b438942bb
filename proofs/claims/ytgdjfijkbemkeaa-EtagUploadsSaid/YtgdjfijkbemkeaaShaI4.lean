/-
  Walk: a loop of the reference's Of.
-/
import Derived.Test.YtgdjfijkbemkeaaShaI0
namespace Go.Proofs.Ytgdjfijkbemkeaa
open Go.RowKit
set_option maxHeartbeats 8000000
set_option maxRecDepth 100000
set_option linter.unusedVariables false

theorem refLoop8 {x0 x1 x2 x3 x4 x6 x7 x8 x9 x10 x11 x12 x13 x14 x15 x16 x17 x18 x19 x20 x21 x22 x25 x26 x27 x28 x29 x30 x31 x32 x33 x34 x35 x36 x37 x38 x39 x40 x41 x42 x43 x44 x45 x46 x47 x48 x49 x50 x51 x52 x53 x54 x55 x56 x57 x58 x59 x60 x61 x62 x63 x64 x65 x66 x67 x68 x69 x70 x71 x72 x73 x74 x75 x76 x77 x78 x79 x80 x81 x82 x83 x84 x85 x86 x87 x88 x89 x90 x91 x92 x93 x94 x95 x96 x97 x98 x99 x100 x101 x102 x103 x104 x105 x106 x107 x108 x109 x110 x111 x112 x113 x114 x115 x116 x117 x118 x119 x120 x121 x122 x123 x124 x125 x126 x127 x128 x129 x130 x131 x132 x133 x134 x135 x136 x137 x138 x139 x140 x141 x142 x143 x144 x145 x146 x147 x148 x149 x150 x151 x152 x153 x154 x155 x156 x157 x158 x159 x160 x161 x162 x163 x164 x165 x166 x167 x168 x169 x170 x171 x172 x173 x174 x175 x176 x177 x178 x179 x180 x181 x182 x183 x184 x185 x186 x187 x188 x189 x190 x191 x192 x193 x194 x195 x196 x197 x198 x199 x200 x201 x202 x203 x204 x205 x206 x207 x208 x209 x210 x211 x212 x213 x214 x215 x216 x217 x218 x219 x220 x221 x222 x223 x224 x225 x226 x227 x228 x229 x230 x231 x232 x233 x234 x235 x236 x237 x238 x239 x240 x241 x242 x243 x244 x245 x246 x247 x248 x249 x250 x251 x252 x253 x254 x255 x256 x257 x258 x259 x260 x261 x262 : Value} (S R : Sm.St) (kb vb B0 : Nat) (w w10 : World) (HS : Hid S.ok) (HROK : Hid R.ok) (hkv : kb + 1 < vb) (hB0 : B0 ≤ kb) (Hn4 : Hid (w10.heap[kb + 1]? = some (.cells (stA S) 44 (0, 0)))) (Hn2 : Hid (w10.heap[vb]? = some (.cells (stA R) 44 (0, 0)))) (Hn3 : Hid (w10.heap[kb]? = some (.cells (wArr Sm.kT) 93 (0, 0)))) (Hn5 : Hid (w10.heap[B0]? = some (.cells (dArr []) 50 (0, 0)))) (n6 : Below B0 w w10)
    (Q : Exit → Act → World → Prop)
    (hK : ∀ (y24 y232 y233 y234 y235 y236 y237 y238 y239 y240 y241 y242 y243 y244 : Value)  (wk : World), (Hid (wk.heap[kb + 1]? = some (.cells (stA (S.add R)) 44 (0, 0))) ∧ Hid (wk.heap[kb]? = some (.cells (wArr Sm.kT) 93 (0, 0))) ∧ Hid (wk.heap[B0]? = some (.cells (dArr []) 50 (0, 0))) ∧ Below B0 w wk) → Q (.exit 8) ⟨List.toArray (x0 :: x1 :: x2 :: x3 :: x4 :: .pointer (some ⟨kb + 1, 0, none⟩) :: x6 :: x7 :: x8 :: x9 :: x10 :: x11 :: x12 :: x13 :: x14 :: x15 :: x16 :: x17 :: x18 :: x19 :: x20 :: x21 :: x22 :: .pointer (some ⟨vb, 0, none⟩) :: y24 :: x25 :: x26 :: x27 :: x28 :: x29 :: x30 :: x31 :: x32 :: x33 :: x34 :: x35 :: x36 :: x37 :: x38 :: x39 :: x40 :: x41 :: x42 :: x43 :: x44 :: x45 :: x46 :: x47 :: x48 :: x49 :: x50 :: x51 :: x52 :: x53 :: x54 :: x55 :: x56 :: x57 :: x58 :: x59 :: x60 :: x61 :: x62 :: x63 :: x64 :: x65 :: x66 :: x67 :: x68 :: x69 :: x70 :: x71 :: x72 :: x73 :: x74 :: x75 :: x76 :: x77 :: x78 :: x79 :: x80 :: x81 :: x82 :: x83 :: x84 :: x85 :: x86 :: x87 :: x88 :: x89 :: x90 :: x91 :: x92 :: x93 :: x94 :: x95 :: x96 :: x97 :: x98 :: x99 :: x100 :: x101 :: x102 :: x103 :: x104 :: x105 :: x106 :: x107 :: x108 :: x109 :: x110 :: x111 :: x112 :: x113 :: x114 :: x115 :: x116 :: x117 :: x118 :: x119 :: x120 :: x121 :: x122 :: x123 :: x124 :: x125 :: x126 :: x127 :: x128 :: x129 :: x130 :: x131 :: x132 :: x133 :: x134 :: x135 :: x136 :: x137 :: x138 :: x139 :: x140 :: x141 :: x142 :: x143 :: x144 :: x145 :: x146 :: x147 :: x148 :: x149 :: x150 :: x151 :: x152 :: x153 :: x154 :: x155 :: x156 :: x157 :: x158 :: x159 :: x160 :: x161 :: x162 :: x163 :: x164 :: x165 :: x166 :: x167 :: x168 :: x169 :: x170 :: x171 :: x172 :: x173 :: x174 :: x175 :: x176 :: x177 :: x178 :: x179 :: x180 :: x181 :: x182 :: x183 :: x184 :: x185 :: x186 :: x187 :: x188 :: x189 :: x190 :: x191 :: x192 :: x193 :: x194 :: x195 :: x196 :: x197 :: x198 :: x199 :: x200 :: x201 :: x202 :: x203 :: x204 :: x205 :: x206 :: x207 :: x208 :: x209 :: x210 :: x211 :: x212 :: x213 :: x214 :: x215 :: x216 :: x217 :: x218 :: x219 :: x220 :: x221 :: x222 :: x223 :: x224 :: x225 :: x226 :: x227 :: x228 :: x229 :: x230 :: x231 :: y232 :: y233 :: y234 :: y235 :: y236 :: y237 :: y238 :: y239 :: y240 :: y241 :: y242 :: y243 :: y244 :: x245 :: x246 :: x247 :: x248 :: x249 :: x250 :: x251 :: x252 :: x253 :: x254 :: x255 :: x256 :: x257 :: x258 :: x259 :: x260 :: x261 :: x262 :: []), []⟩ wk) :
    Code.wp Try.prog (Code.loop (lpOf 4)) Q ⟨List.toArray (x0 :: x1 :: x2 :: x3 :: x4 :: .pointer (some ⟨kb + 1, 0, none⟩) :: x6 :: x7 :: x8 :: x9 :: x10 :: x11 :: x12 :: x13 :: x14 :: x15 :: x16 :: x17 :: x18 :: x19 :: x20 :: x21 :: x22 :: .pointer (some ⟨vb, 0, none⟩) :: .int .i64 0 :: x25 :: x26 :: x27 :: x28 :: x29 :: x30 :: x31 :: x32 :: x33 :: x34 :: x35 :: x36 :: x37 :: x38 :: x39 :: x40 :: x41 :: x42 :: x43 :: x44 :: x45 :: x46 :: x47 :: x48 :: x49 :: x50 :: x51 :: x52 :: x53 :: x54 :: x55 :: x56 :: x57 :: x58 :: x59 :: x60 :: x61 :: x62 :: x63 :: x64 :: x65 :: x66 :: x67 :: x68 :: x69 :: x70 :: x71 :: x72 :: x73 :: x74 :: x75 :: x76 :: x77 :: x78 :: x79 :: x80 :: x81 :: x82 :: x83 :: x84 :: x85 :: x86 :: x87 :: x88 :: x89 :: x90 :: x91 :: x92 :: x93 :: x94 :: x95 :: x96 :: x97 :: x98 :: x99 :: x100 :: x101 :: x102 :: x103 :: x104 :: x105 :: x106 :: x107 :: x108 :: x109 :: x110 :: x111 :: x112 :: x113 :: x114 :: x115 :: x116 :: x117 :: x118 :: x119 :: x120 :: x121 :: x122 :: x123 :: x124 :: x125 :: x126 :: x127 :: x128 :: x129 :: x130 :: x131 :: x132 :: x133 :: x134 :: x135 :: x136 :: x137 :: x138 :: x139 :: x140 :: x141 :: x142 :: x143 :: x144 :: x145 :: x146 :: x147 :: x148 :: x149 :: x150 :: x151 :: x152 :: x153 :: x154 :: x155 :: x156 :: x157 :: x158 :: x159 :: x160 :: x161 :: x162 :: x163 :: x164 :: x165 :: x166 :: x167 :: x168 :: x169 :: x170 :: x171 :: x172 :: x173 :: x174 :: x175 :: x176 :: x177 :: x178 :: x179 :: x180 :: x181 :: x182 :: x183 :: x184 :: x185 :: x186 :: x187 :: x188 :: x189 :: x190 :: x191 :: x192 :: x193 :: x194 :: x195 :: x196 :: x197 :: x198 :: x199 :: x200 :: x201 :: x202 :: x203 :: x204 :: x205 :: x206 :: x207 :: x208 :: x209 :: x210 :: x211 :: x212 :: x213 :: x214 :: x215 :: x216 :: x217 :: x218 :: x219 :: x220 :: x221 :: x222 :: x223 :: x224 :: x225 :: x226 :: x227 :: x228 :: x229 :: x230 :: x231 :: x232 :: x233 :: x234 :: x235 :: x236 :: x237 :: x238 :: x239 :: x240 :: x241 :: x242 :: x243 :: x244 :: x245 :: x246 :: x247 :: x248 :: x249 :: x250 :: x251 :: x252 :: x253 :: x254 :: x255 :: x256 :: x257 :: x258 :: x259 :: x260 :: x261 :: x262 :: []), []⟩ w10 := by
  conv => arg 2; arg 1; whnf
  go_loopw [24] (fun cv wr => ∃ k : Nat, k ≤ 8 ∧ cv = .int .i64 (k : Int) ∧ Hid (wr.heap[kb + 1]? = some (.cells (stA (Sm.mix S R k)) 44 (0, 0))) ∧ Hid (wr.heap[vb]? = some (.cells (stA R) 44 (0, 0))) ∧
                      Hid (wr.heap[kb]? = some (.cells (wArr Sm.kT) 93 (0, 0))) ∧ Hid (wr.heap[B0]? = some (.cells (dArr []) 50 (0, 0))) ∧ Below B0 w wr) (fun cv _ => 8 - (intOf cv).toNat)
  case atStart => exact ⟨0, by omega, rfl, Hn4, Hn2, Hn3, Hn5, n6⟩
  case round =>
    clear Hn2 Hn3 Hn4 Hn5 n6
    obtain ⟨k8, hk8, rfl, GH, GV, GK, GD, hb⟩ := hrel
    by_cases hlt8 : k8 < 8
    · clear hK
      have r1 : wr.cell? ⟨kb + 1, k8, none⟩ = some (.int .u32 ((S.get k8 : Nat) : Int)) := by
        rw [cell_of_row _ _ _ _ _ _ GH.out, stA_get _ _ hlt8, Sm.mix, Sm.get_ofGet _ _ hlt8, Sm.mixF, if_neg (by omega)]
      have r2 : wr.cell? ⟨vb, k8, none⟩ = some (.int .u32 ((R.get k8 : Nat) : Int)) := by
        rw [cell_of_row _ _ _ _ _ _ GV.out, stA_get _ _ hlt8]
      have f1 := frozen_of_row _ _ k8 _ _ GH.out
      have l1 := Sm.get_lt S HS.out k8
      have l2 := Sm.get_lt R HROK.out k8
      have hset : ∀ (wx : World) (v : Int), v = (((S.get k8 + R.get k8) % 4294967296 : Nat) : Int) → wx.heap[kb + 1]? = some (.cells (stA (Sm.mix S R k8)) 44 (0, 0)) →
          (wx.setCell ⟨kb + 1, k8, none⟩ (.int .u32 v)).heap[kb + 1]? = some (.cells (stA (Sm.mix S R (k8 + 1))) 44 (0, 0)) := fun wx v hv hx => by
        rw [heap_setCell_same wx (kb + 1) k8 _ _ _ hx, hv, stA_put S R k8 hlt8]
      generalize S.get k8 = x1 at *
      generalize R.get k8 = x2 at *
      have ew : IntKind.u32.wrap ((x1 : Int) + x2) = (((x1 + x2) % 4294967296 : Nat) : Int) := by rw [IntKind.wrap_u32]; omega
      have Hhset := Lib.hid hset
      clear hset
      go_wp2_with fail
      go_still_tail 9, (by kernel_rfl)
      change wpList _ _ _ _ _ wr.drew
      have J1 : Hid (wr.drew.heap[kb + 1]? = some (.cells (stA (Sm.mix S R k8)) 44 (0, 0))) := GH.out
      have J2 : Hid (wr.drew.heap[vb]? = some (.cells (stA R) 44 (0, 0))) := GV.out
      have J3 : Hid (wr.drew.heap[kb]? = some (.cells (wArr Sm.kT) 93 (0, 0))) := GK.out
      have J4 : Hid (wr.drew.heap[B0]? = some (.cells (dArr []) 50 (0, 0))) := GD.out
      have JB : Below B0 w wr.drew := hb.drew
      have jf : wr.drew.frozen? ⟨kb + 1, k8, none⟩ = false := f1
      have jc : wr.drew.cell? ⟨kb + 1, k8, none⟩ = some (.int .u32 (x1 : Int)) := r1
      clear f1 r1 r2 GH GV GK GD hb
      generalize wr.drew = w11 at *
      go_wp2_with fail
      go_roundw
      case rel =>
        refine ⟨k8 + 1, by omega, by go_num, Hhset.out _ _ (by omega) J1.out, ?_, ?_, ?_, JB.setCell (by show B0 ≤ kb + 1; omega) _⟩
        · show _ = _; rw [heap_setCell_other _ _ _ _ (by show vb ≠ kb + 1; omega)]; exact J2.out
        · show _ = _; rw [heap_setCell_other _ _ _ _ (by show kb ≠ kb + 1; omega)]; exact J3.out
        · show _ = _; rw [heap_setCell_other _ _ _ _ (by show B0 ≠ kb + 1; omega)]; exact J4.out
      case measure => simp [intOf]; omega
    · obtain rfl : k8 = 8 := by omega
      rw [Sm.mix_full] at GH
      have HF := Lib.hid (⟨GH, GK, GD, hb⟩ : Hid (wr.heap[kb + 1]? = some (.cells (stA (S.add R)) 44 (0, 0))) ∧ Hid (wr.heap[kb]? = some (.cells (wArr Sm.kT) 93 (0, 0))) ∧ Hid (wr.heap[B0]? = some (.cells (dArr []) 50 (0, 0))) ∧ Below B0 w wr)
      clear GH GV GK GD hb
      have HK := Lib.hid hK
      clear hK
      go_wp2_with fail
      exact HK.out _ _ _ _ _ _ _ _ _ _ _ _ _ _ _ HF.out
end Go.Proofs.Ytgdjfijkbemkeaa
