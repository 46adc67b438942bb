/-
  Walk: a loop of the reference's Of.
-/
import Derived.Test.YtgdjfijkbemkeaaShaI0
namespace Go.Proofs.Ytgdjfijkbemkeaa
open Go.RowKit
set_option maxHeartbeats 8000000
set_option maxRecDepth 100000
set_option linter.unusedVariables false

theorem refLoop16 {x0 x1 x2 x4 x5 x9 x10 x11 x12 x13 x14 x15 x16 x17 x18 x19 x20 x21 x22 x23 x24 x25 x26 x27 x28 x29 x30 x31 x32 x33 x34 x35 x36 x37 x38 x39 x40 x41 x42 x43 x44 x45 x46 x47 x48 x49 x50 x51 x52 x53 x54 x55 x56 x57 x58 x59 x60 x61 x62 x63 x64 x65 x66 x67 x68 x69 x70 x71 x72 x73 x74 x75 x76 x77 x78 x79 x80 x81 x82 x83 x84 x85 x86 x87 x88 x89 x90 x91 x92 x93 x94 x95 x96 x97 x98 x99 x100 x101 x102 x103 x104 x105 x106 x107 x108 x109 x110 x111 x112 x113 x114 x115 x116 x117 x118 x119 x120 x121 x122 x123 x124 x125 x126 x127 x128 x129 x130 x131 x132 x133 x134 x135 x136 x137 x138 x139 x140 x141 x142 x143 x144 x145 x146 x147 x148 x149 x150 x151 x152 x153 x154 x155 x156 x157 x158 x159 x160 x161 x162 x163 x164 x165 x166 x167 x168 x169 x170 x171 x172 x173 x174 x175 x176 x177 x178 x179 x180 x181 x182 x183 x184 x185 x186 x187 x188 x189 x190 x191 x192 x193 x194 x195 x196 x197 x198 x199 x200 x201 x202 x203 x204 x205 x206 x207 x208 x209 x210 x211 x212 x213 x214 x215 x216 x217 x218 x219 x220 x221 x222 x223 x224 x225 x226 x227 x228 x229 x230 x231 x232 x233 x234 x235 x236 x237 x238 x239 x240 x241 x242 x243 x244 x245 x246 x247 x248 x249 x250 x251 x252 x253 x254 x255 x256 x257 x258 x259 x260 x261 x262 : Value} (p : ByteArray) (q : Nat) (bl : List UInt8) (wz : World) (j0 : TypeInfo) (hj0 : Try.prog.info? 22 = some j0) (hzz0 : j0.zero = some (.int .u32 0)) (hzz1 : j0.size = 1) (hzz2 : j0.bytes = 4) (HIDX : Hid (∀ t, t < 64 → p[q + t]? = some (bl.getD t 0))) (HBLL : Hid (bl.length = 64)) (hq2 : q ≤ 6400000)
    (Q : Exit → Act → World → Prop)
    (hK : ∀ (y7 y8 y37 y38 y39 y40 y41 y42 y43 y44 y45 y46 y47 y48 y49 y50 y51 y52 y53 y54 y55 y56 y57 y58 y59 y60 y61 y62 y63 y64 y65 y66 y67 y68 y69 y70 y71 y72 y73 y74 y75 y76 y77 y78 y79 y80 : Value)  (wk : World), (Hid (wk.ownsRow wz.heap.size 22 1 y7 16 (u32s (Sm.sched bl 16))) ∧ Below wz.heap.size wz wk) → Q (.exit 2) ⟨List.toArray (x0 :: x1 :: x2 :: .string p :: x4 :: x5 :: .int .i64 (q : Int) :: y7 :: y8 :: x9 :: x10 :: x11 :: x12 :: x13 :: x14 :: x15 :: x16 :: x17 :: x18 :: x19 :: x20 :: x21 :: x22 :: x23 :: x24 :: x25 :: x26 :: x27 :: x28 :: x29 :: x30 :: x31 :: x32 :: x33 :: x34 :: x35 :: x36 :: y37 :: y38 :: y39 :: y40 :: y41 :: y42 :: y43 :: y44 :: y45 :: y46 :: y47 :: y48 :: y49 :: y50 :: y51 :: y52 :: y53 :: y54 :: y55 :: y56 :: y57 :: y58 :: y59 :: y60 :: y61 :: y62 :: y63 :: y64 :: y65 :: y66 :: y67 :: y68 :: y69 :: y70 :: y71 :: y72 :: y73 :: y74 :: y75 :: y76 :: y77 :: y78 :: y79 :: y80 :: x81 :: x82 :: x83 :: x84 :: x85 :: x86 :: x87 :: x88 :: x89 :: x90 :: x91 :: x92 :: x93 :: x94 :: x95 :: x96 :: x97 :: x98 :: x99 :: x100 :: x101 :: x102 :: x103 :: x104 :: x105 :: x106 :: x107 :: x108 :: x109 :: x110 :: x111 :: x112 :: x113 :: x114 :: x115 :: x116 :: x117 :: x118 :: x119 :: x120 :: x121 :: x122 :: x123 :: x124 :: x125 :: x126 :: x127 :: x128 :: x129 :: x130 :: x131 :: x132 :: x133 :: x134 :: x135 :: x136 :: x137 :: x138 :: x139 :: x140 :: x141 :: x142 :: x143 :: x144 :: x145 :: x146 :: x147 :: x148 :: x149 :: x150 :: x151 :: x152 :: x153 :: x154 :: x155 :: x156 :: x157 :: x158 :: x159 :: x160 :: x161 :: x162 :: x163 :: x164 :: x165 :: x166 :: x167 :: x168 :: x169 :: x170 :: x171 :: x172 :: x173 :: x174 :: x175 :: x176 :: x177 :: x178 :: x179 :: x180 :: x181 :: x182 :: x183 :: x184 :: x185 :: x186 :: x187 :: x188 :: x189 :: x190 :: x191 :: x192 :: x193 :: x194 :: x195 :: x196 :: x197 :: x198 :: x199 :: x200 :: x201 :: x202 :: x203 :: x204 :: x205 :: x206 :: x207 :: x208 :: x209 :: x210 :: x211 :: x212 :: x213 :: x214 :: x215 :: x216 :: x217 :: x218 :: x219 :: x220 :: x221 :: x222 :: x223 :: x224 :: x225 :: x226 :: x227 :: x228 :: x229 :: x230 :: x231 :: x232 :: x233 :: x234 :: x235 :: x236 :: x237 :: x238 :: x239 :: x240 :: x241 :: x242 :: x243 :: x244 :: x245 :: x246 :: x247 :: x248 :: x249 :: x250 :: x251 :: x252 :: x253 :: x254 :: x255 :: x256 :: x257 :: x258 :: x259 :: x260 :: x261 :: x262 :: []), []⟩ wk) :
    Code.wp Try.prog (Code.loop (lpOf 1)) Q ⟨List.toArray (x0 :: x1 :: x2 :: .string p :: x4 :: x5 :: .int .i64 (q : Int) :: .slice none 0 0 :: .int .i64 0 :: x9 :: x10 :: x11 :: x12 :: x13 :: x14 :: x15 :: x16 :: x17 :: x18 :: x19 :: x20 :: x21 :: x22 :: x23 :: x24 :: x25 :: x26 :: x27 :: x28 :: x29 :: x30 :: x31 :: x32 :: x33 :: x34 :: x35 :: x36 :: x37 :: x38 :: x39 :: x40 :: x41 :: x42 :: x43 :: x44 :: x45 :: x46 :: x47 :: x48 :: x49 :: x50 :: x51 :: x52 :: x53 :: x54 :: x55 :: x56 :: x57 :: x58 :: x59 :: x60 :: x61 :: x62 :: x63 :: x64 :: x65 :: x66 :: x67 :: x68 :: x69 :: x70 :: x71 :: x72 :: x73 :: x74 :: x75 :: x76 :: x77 :: x78 :: x79 :: x80 :: x81 :: x82 :: x83 :: x84 :: x85 :: x86 :: x87 :: x88 :: x89 :: x90 :: x91 :: x92 :: x93 :: x94 :: x95 :: x96 :: x97 :: x98 :: x99 :: x100 :: x101 :: x102 :: x103 :: x104 :: x105 :: x106 :: x107 :: x108 :: x109 :: x110 :: x111 :: x112 :: x113 :: x114 :: x115 :: x116 :: x117 :: x118 :: x119 :: x120 :: x121 :: x122 :: x123 :: x124 :: x125 :: x126 :: x127 :: x128 :: x129 :: x130 :: x131 :: x132 :: x133 :: x134 :: x135 :: x136 :: x137 :: x138 :: x139 :: x140 :: x141 :: x142 :: x143 :: x144 :: x145 :: x146 :: x147 :: x148 :: x149 :: x150 :: x151 :: x152 :: x153 :: x154 :: x155 :: x156 :: x157 :: x158 :: x159 :: x160 :: x161 :: x162 :: x163 :: x164 :: x165 :: x166 :: x167 :: x168 :: x169 :: x170 :: x171 :: x172 :: x173 :: x174 :: x175 :: x176 :: x177 :: x178 :: x179 :: x180 :: x181 :: x182 :: x183 :: x184 :: x185 :: x186 :: x187 :: x188 :: x189 :: x190 :: x191 :: x192 :: x193 :: x194 :: x195 :: x196 :: x197 :: x198 :: x199 :: x200 :: x201 :: x202 :: x203 :: x204 :: x205 :: x206 :: x207 :: x208 :: x209 :: x210 :: x211 :: x212 :: x213 :: x214 :: x215 :: x216 :: x217 :: x218 :: x219 :: x220 :: x221 :: x222 :: x223 :: x224 :: x225 :: x226 :: x227 :: x228 :: x229 :: x230 :: x231 :: x232 :: x233 :: x234 :: x235 :: x236 :: x237 :: x238 :: x239 :: x240 :: x241 :: x242 :: x243 :: x244 :: x245 :: x246 :: x247 :: x248 :: x249 :: x250 :: x251 :: x252 :: x253 :: x254 :: x255 :: x256 :: x257 :: x258 :: x259 :: x260 :: x261 :: x262 :: []), []⟩ wz := by
  conv => arg 2; arg 1; whnf
  go_loopw [8, 7] (fun cv v wr => ∃ (k : Nat) (sv : Value), k ≤ 16 ∧ cv = .int .i64 (k : Int) ∧ sv = v ∧ Hid (wr.ownsRow wz.heap.size 22 1 sv k (u32s (Sm.sched bl k))) ∧ Below wz.heap.size wz wr) (fun cv _ _ => 16 - (intOf cv).toNat)
  case atStart => exact ⟨0, _, by omega, rfl, rfl, by rw [Sm.sched_zero]; exact ⟨rfl, .inl ⟨rfl, rfl⟩⟩, Below.refl _ _⟩
  case round =>
    obtain ⟨k, sv, hk, rfl, rfl, HO, hbz⟩ := hrel
    by_cases hk16 : k < 16
    · clear hK
      have x0 := HIDX.out (4 * k) (by omega)
      have x1 := HIDX.out (4 * k + 1) (by omega)
      have x2 := HIDX.out (4 * k + 2) (by omega)
      have x3 := HIDX.out (4 * k + 3) (by omega)
      have hwd := word_eq bl k (by rw [HBLL.out]; omega)
      have hsu := Sm.sched_succ bl k
      rw [if_pos hk16] at hsu
      have l0 := (bl.getD (4 * k) 0).toNat_lt
      have l1 := (bl.getD (4 * k + 1) 0).toNat_lt
      have l2 := (bl.getD (4 * k + 2) 0).toNat_lt
      have l3 := (bl.getD (4 * k + 3) 0).toNat_lt
      generalize bl.getD (4 * k) 0 = c0 at *
      generalize bl.getD (4 * k + 1) 0 = c1 at *
      generalize bl.getD (4 * k + 2) 0 = c2 at *
      generalize bl.getD (4 * k + 3) 0 = c3 at *
      generalize Sm.word bl k = wd at *
      obtain ⟨k4, hk4⟩ : ∃ x, x = 4 * k := ⟨_, rfl⟩
      obtain ⟨t, ht⟩ : ∃ t, t = q + 4 * k := ⟨_, rfl⟩
      rw [← Nat.add_assoc, ← ht] at x1 x2 x3
      rw [← ht] at x0
      have ht64 : t ≤ 6500000 := by omega
      have hu := run_underlying Try.underlying9
      have r0 : ∀ wx, (Instr.index 9 (.string p) (.int .i64 (t : Int))).run Try.prog wx = .ok (.int .u8 (c0.toNat : Int)) wx := fun wx => by
        simp [Instr.index, asIntOf, hu, x0]
      have r1 : ∀ wx, (Instr.index 9 (.string p) (.int .i64 ((t : Int) + 1))).run Try.prog wx = .ok (.int .u8 (c1.toNat : Int)) wx := fun wx => by
        simp [Instr.index, asIntOf, hu, x1, (by omega : 0 ≤ (t : Int) + 1), (by omega : ((t : Int) + 1).toNat = t + 1)]
      have r2 : ∀ wx, (Instr.index 9 (.string p) (.int .i64 ((t : Int) + 2))).run Try.prog wx = .ok (.int .u8 (c2.toNat : Int)) wx := fun wx => by
        simp [Instr.index, asIntOf, hu, x2, (by omega : 0 ≤ (t : Int) + 2), (by omega : ((t : Int) + 2).toNat = t + 2)]
      have r3 : ∀ wx, (Instr.index 9 (.string p) (.int .i64 ((t : Int) + 3))).run Try.prog wx = .ok (.int .u8 (c3.toNat : Int)) wx := fun wx => by
        simp [Instr.index, asIntOf, hu, x3, (by omega : 0 ≤ (t : Int) + 3), (by omega : ((t : Int) + 3).toNat = t + 3)]
      generalize c0.toNat = n0 at *
      generalize c1.toNat = n1 at *
      generalize c2.toNat = n2 at *
      generalize c3.toNat = n3 at *
      have s1 : IntKind.i64.wrap (4 * (k : Int)) = (k4 : Int) := by rw [IntKind.wrap_i64]; omega
      have s2 : IntKind.i64.wrap ((q : Int) + k4) = (t : Int) := by rw [IntKind.wrap_i64]; omega
      have s3 : IntKind.i64.wrap ((t : Int) + 1) = (t : Int) + 1 := by rw [IntKind.wrap_i64]; omega
      have s4 : IntKind.i64.wrap ((t : Int) + 2) = (t : Int) + 2 := by rw [IntKind.wrap_i64]; omega
      have s5 : IntKind.i64.wrap ((t : Int) + 3) = (t : Int) + 3 := by rw [IntKind.wrap_i64]; omega
      have u0 : IntKind.u32.wrap (n0 : Int) = (n0 : Int) := by rw [IntKind.wrap_u32]; omega
      have u1 : IntKind.u32.wrap (n1 : Int) = (n1 : Int) := by rw [IntKind.wrap_u32]; omega
      have u2 : IntKind.u32.wrap (n2 : Int) = (n2 : Int) := by rw [IntKind.wrap_u32]; omega
      have u3 : IntKind.u32.wrap (n3 : Int) = (n3 : Int) := by rw [IntKind.wrap_u32]; omega
      have m0 : IntKind.u32.wrap (IntKind.u32.wrap (IntKind.u32.wrap (IntKind.u32.wrap ((n0 : Int) * 16777216) + IntKind.u32.wrap ((n1 : Int) * 65536)) + IntKind.u32.wrap ((n2 : Int) * 256)) + n3) = (wd : Int) := by
        simp only [IntKind.wrap_u32]; omega
      have HSU := Lib.hid hsu
      have M0 := Lib.hid m0
      clear hsu hwd m0 x0 x1 x2 x3 hu l0 l1 l2 l3 hk4 ht
      go_wp2_with fail
      refine wp_region_ptail (fun w' => w' = wr.drew) 37 (by kernel_rfl) (by kernel_rfl) rfl rfl sv (fun _ => rfl) ?_
      simp only [List.take_succ_cons, List.take_zero, List.drop_succ_cons, List.drop_zero]
      repeat (refine wpQuiet_step (fun Kq hKq => ?_)
              refine qt_want rfl ?_
              apply Exists.intro
              refine ⟨fun _ hw => ?_, ?_⟩
              · (unfold Oper.quietAt; go_simp; try exact rfl)
              go_simp
              refine hKq _ ?_
              clear hKq Kq)
      refine wpQuiet_nil ?_
      rintro w' rfl
      rw [M0.out]
      have J1 : Hid (wr.drew.ownsRow wz.heap.size 22 1 sv k (u32s (Sm.sched bl k))) := HO.out
      have jb : Below wz.heap.size wz wr.drew := hbz.drew
      clear HO hbz
      generalize wr.drew = w5 at *
      have hbs := jb.size
      go_wp2_with (at_builtin; go_loud (refine kl_append1 rfl _ _ 99 rfl wz.heap.size 22 j0 (.int .u32 0) 1 4 Try.underlying99 hj0 hzz0 hzz1 hzz2 rfl (by decide) _ k _ rfl J1.out 1 #[.int .u32 (wd : Int)] rfl rfl (by simp [Value.oneCell']) (by omega) (by omega) hbs ?_; intro v' w' hown' hbel hsz' _))
      try refine NoPanic.normal ?_
      go_wp2_with fail
      go_roundw
      case rel =>
        refine ⟨k + 1, v', by omega, by go_num, rfl, ?_, jb.trans hbel⟩
        rw [HSU.out]
        have e : u32s (Sm.sched bl k ++ [wd]) = u32s (Sm.sched bl k) ++ [.int .u32 (wd : Int)] := by simp [u32s]
        rw [e]; exact hown'
      case measure => simp [intOf]; omega
    · have hk' : k = 16 := by omega
      have HO16 : Hid (wr.ownsRow wz.heap.size 22 1 sv 16 (u32s (Sm.sched bl 16))) := by rw [← hk']; exact HO.out
      have hki : ¬ ((k : Int) < 16) := by omega
      have HF := Lib.hid (⟨HO16, hbz⟩ : Hid (wr.ownsRow wz.heap.size 22 1 sv 16 (u32s (Sm.sched bl 16))) ∧ Below wz.heap.size wz wr)
      clear HO hk' hk HO16 hbz HIDX
      have HK := Lib.hid hK
      clear hK
      go_wp2_with fail
      exact HK.out _ _ _ _ _ _ _ _ _ _ _ _ _ _ _ _ _ _ _ _ _ _ _ _ _ _ _ _ _ _ _ _ _ _ _ _ _ _ _ _ _ _ _ _ _ _ _ HF.out
end Go.Proofs.Ytgdjfijkbemkeaa
