/- Library functions at this program, laid by the kit's own tools in plain words. Condition: what the structures say. -/
import Derived.Shelf.SlSortCmp.NoneTotal
import Derived.Test.YtpcgklagmcnhaaaGreatT7TNodes
namespace Go.Proofs
open Go.Shelf
def Tryz.sortNodes_ren : Go.Shelf.Ren := ⟨fun | 6 => 38 | 15 => 59 | 14 => 68 | 28 => 95 | 29 => 96 | 20 => 108 | 21 => 109 | 22 => 110 | 23 => 111 | 24 => 112 | 25 => 113 | 26 => 114 | 27 => 115 | 46 => 140 | 47 => 130 | 48 => 131 | 49 => 141 | 50 => 142 | 57 => 169 | n => n, fun | 22 => 70 | 24 => 26 | 25 => 89 | 3 => 3 | 39 => 109 | 0 => 0 | 53 => 151 | 55 => 153 | 4 => 4 | 46 => 145 | 45 => 144 | 50 => 29 | 5 => 5 | 9 => 9 | 66 => 184 | 70 => 188 | 76 => 210 | 77 => 211 | n => n, fun | n => n⟩
theorem Tryz.sortNodes : Go.Proofs.SlLaysF0.n6 Tryz.prog Tryz.sortNodes_ren := {
 mixed := by kernel_rfl
 f6 := ⟨Tryz.f38.name, by decide, Tryz.func38.trans (congrArg some (by kernel_rfl))⟩
 f14 := ⟨Tryz.f68.name, by decide, Tryz.func68.trans (congrArg some (by kernel_rfl))⟩
 f15 := Tryz.func59.trans (congrArg some (by kernel_rfl))
 f20 := ⟨Tryz.f108.name, by decide, Tryz.func108.trans (congrArg some (by kernel_rfl))⟩
 f21 := ⟨Tryz.f109.name, by decide, Tryz.func109.trans (congrArg some (by kernel_rfl))⟩
 f22 := ⟨Tryz.f110.name, by decide, Tryz.func110.trans (congrArg some (by kernel_rfl))⟩
 f23 := ⟨Tryz.f111.name, by decide, Tryz.func111.trans (congrArg some (by kernel_rfl))⟩
 f24 := ⟨Tryz.f112.name, by decide, Tryz.func112.trans (congrArg some (by kernel_rfl))⟩
 f25 := ⟨Tryz.f113.name, by decide, Tryz.func113.trans (congrArg some (by kernel_rfl))⟩
 f26 := ⟨Tryz.f114.name, by decide, Tryz.func114.trans (congrArg some (by kernel_rfl))⟩
 f27 := ⟨Tryz.f115.name, by decide, Tryz.func115.trans (congrArg some (by kernel_rfl))⟩
 f28 := Tryz.func95.trans (congrArg some (by kernel_rfl))
 f29 := Tryz.func96.trans (congrArg some (by kernel_rfl))
 f46 := ⟨Tryz.f140.name, by decide, Tryz.func140.trans (congrArg some (by kernel_rfl))⟩
 f47 := Tryz.func130.trans (congrArg some (by kernel_rfl))
 f48 := Tryz.func131.trans (congrArg some (by kernel_rfl))
 f49 := ⟨Tryz.f141.name, by decide, Tryz.func141.trans (congrArg some (by kernel_rfl))⟩
 f50 := ⟨Tryz.f142.name, by decide, Tryz.func142.trans (congrArg some (by kernel_rfl))⟩
 f57 := ⟨Tryz.f169.name, by decide, Tryz.func169.trans (congrArg some (by kernel_rfl))⟩
 t0 := Tryz.underlying0
 a0 := Tryz.isAgg0
 z0 := Tryz.sizeOf0
 v0 := Tryz.zeroValue0
 t3 := Tryz.underlying3
 a3 := Tryz.isAgg3
 z3 := Tryz.sizeOf3
 v3 := Tryz.zeroValue3
 t4 := Tryz.underlying4
 a4 := Tryz.isAgg4
 z4 := Tryz.sizeOf4
 v4 := Tryz.zeroValue4
 t5 := Tryz.underlying5
 a5 := Tryz.isAgg5
 z5 := Tryz.sizeOf5
 v5 := Tryz.zeroValue5
 t9 := Tryz.underlying9
 a9 := Tryz.isAgg9
 z9 := Tryz.sizeOf9
 v9 := Tryz.zeroValue9
 t22 := Tryz.underlying70
 a22 := Tryz.isAgg70
 z22 := Tryz.sizeOf70
 v22 := Tryz.zeroValue70
 t25 := Tryz.underlying89
 a25 := Tryz.isAgg89
 z25 := Tryz.sizeOf89
 v25 := Tryz.zeroValue89
 t39 := Tryz.underlying109
 a39 := Tryz.isAgg109
 z39 := Tryz.sizeOf109
 v39 := Tryz.zeroValue109
 t45 := Tryz.underlying144
 a45 := Tryz.isAgg144
 z45 := Tryz.sizeOf144
 v45 := Tryz.zeroValue144
 t46 := Tryz.underlying145
 a46 := Tryz.isAgg145
 z46 := Tryz.sizeOf145
 v46 := Tryz.zeroValue145
 t50 := Tryz.underlying29
 a50 := Tryz.isAgg29
 z50 := Tryz.sizeOf29
 v50 := Tryz.zeroValue29
 t53 := Tryz.underlying151
 a53 := Tryz.isAgg151
 z53 := Tryz.sizeOf151
 v53 := Tryz.zeroValue151
 t55 := Tryz.underlying153
 a55 := Tryz.isAgg153
 z55 := Tryz.sizeOf153
 v55 := Tryz.zeroValue153
 t66 := Tryz.underlying184
 a66 := Tryz.isAgg184
 z66 := Tryz.sizeOf184
 v66 := Tryz.zeroValue184
 t70 := Tryz.underlying188
 a70 := Tryz.isAgg188
 z70 := Tryz.sizeOf188
 v70 := Tryz.zeroValue188
 t76 := Tryz.underlying210
 a76 := Tryz.isAgg210
 z76 := Tryz.sizeOf210
 v76 := Tryz.zeroValue210
 t77 := Tryz.underlying211
 a77 := Tryz.isAgg211
 z77 := Tryz.sizeOf211
 v77 := Tryz.zeroValue211 }
def Tryz.sortTrips_ren : Go.Shelf.Ren := ⟨fun | 6 => 71 | 15 => 59 | 14 => 117 | 28 => 95 | 29 => 96 | 20 => 143 | 21 => 144 | 22 => 145 | 23 => 146 | 24 => 147 | 25 => 148 | 26 => 149 | 27 => 150 | 46 => 170 | 47 => 130 | 48 => 131 | 49 => 171 | 50 => 172 | 57 => 178 | n => n, fun | 22 => 122 | 24 => 123 | 25 => 125 | 3 => 3 | 39 => 109 | 0 => 0 | 53 => 151 | 55 => 153 | 4 => 4 | 46 => 145 | 45 => 144 | 50 => 29 | 5 => 5 | 9 => 9 | 66 => 184 | 70 => 188 | 76 => 210 | 77 => 211 | n => n, fun | n => n⟩
theorem Tryz.sortTrips : Go.Proofs.SlLaysF0.n6 Tryz.prog Tryz.sortTrips_ren := {
 mixed := by kernel_rfl
 f6 := ⟨Tryz.f71.name, by decide, Tryz.func71.trans (congrArg some (by kernel_rfl))⟩
 f14 := ⟨Tryz.f117.name, by decide, Tryz.func117.trans (congrArg some (by kernel_rfl))⟩
 f15 := Tryz.func59.trans (congrArg some (by kernel_rfl))
 f20 := ⟨Tryz.f143.name, by decide, Tryz.func143.trans (congrArg some (by kernel_rfl))⟩
 f21 := ⟨Tryz.f144.name, by decide, Tryz.func144.trans (congrArg some (by kernel_rfl))⟩
 f22 := ⟨Tryz.f145.name, by decide, Tryz.func145.trans (congrArg some (by kernel_rfl))⟩
 f23 := ⟨Tryz.f146.name, by decide, Tryz.func146.trans (congrArg some (by kernel_rfl))⟩
 f24 := ⟨Tryz.f147.name, by decide, Tryz.func147.trans (congrArg some (by kernel_rfl))⟩
 f25 := ⟨Tryz.f148.name, by decide, Tryz.func148.trans (congrArg some (by kernel_rfl))⟩
 f26 := ⟨Tryz.f149.name, by decide, Tryz.func149.trans (congrArg some (by kernel_rfl))⟩
 f27 := ⟨Tryz.f150.name, by decide, Tryz.func150.trans (congrArg some (by kernel_rfl))⟩
 f28 := Tryz.func95.trans (congrArg some (by kernel_rfl))
 f29 := Tryz.func96.trans (congrArg some (by kernel_rfl))
 f46 := ⟨Tryz.f170.name, by decide, Tryz.func170.trans (congrArg some (by kernel_rfl))⟩
 f47 := Tryz.func130.trans (congrArg some (by kernel_rfl))
 f48 := Tryz.func131.trans (congrArg some (by kernel_rfl))
 f49 := ⟨Tryz.f171.name, by decide, Tryz.func171.trans (congrArg some (by kernel_rfl))⟩
 f50 := ⟨Tryz.f172.name, by decide, Tryz.func172.trans (congrArg some (by kernel_rfl))⟩
 f57 := ⟨Tryz.f178.name, by decide, Tryz.func178.trans (congrArg some (by kernel_rfl))⟩
 t0 := Tryz.underlying0
 a0 := Tryz.isAgg0
 z0 := Tryz.sizeOf0
 v0 := Tryz.zeroValue0
 t3 := Tryz.underlying3
 a3 := Tryz.isAgg3
 z3 := Tryz.sizeOf3
 v3 := Tryz.zeroValue3
 t4 := Tryz.underlying4
 a4 := Tryz.isAgg4
 z4 := Tryz.sizeOf4
 v4 := Tryz.zeroValue4
 t5 := Tryz.underlying5
 a5 := Tryz.isAgg5
 z5 := Tryz.sizeOf5
 v5 := Tryz.zeroValue5
 t9 := Tryz.underlying9
 a9 := Tryz.isAgg9
 z9 := Tryz.sizeOf9
 v9 := Tryz.zeroValue9
 t22 := Tryz.underlying122
 a22 := Tryz.isAgg122
 z22 := Tryz.sizeOf122
 v22 := Tryz.zeroValue122
 t25 := Tryz.underlying125
 a25 := Tryz.isAgg125
 z25 := Tryz.sizeOf125
 v25 := Tryz.zeroValue125
 t39 := Tryz.underlying109
 a39 := Tryz.isAgg109
 z39 := Tryz.sizeOf109
 v39 := Tryz.zeroValue109
 t45 := Tryz.underlying144
 a45 := Tryz.isAgg144
 z45 := Tryz.sizeOf144
 v45 := Tryz.zeroValue144
 t46 := Tryz.underlying145
 a46 := Tryz.isAgg145
 z46 := Tryz.sizeOf145
 v46 := Tryz.zeroValue145
 t50 := Tryz.underlying29
 a50 := Tryz.isAgg29
 z50 := Tryz.sizeOf29
 v50 := Tryz.zeroValue29
 t53 := Tryz.underlying151
 a53 := Tryz.isAgg151
 z53 := Tryz.sizeOf151
 v53 := Tryz.zeroValue151
 t55 := Tryz.underlying153
 a55 := Tryz.isAgg153
 z55 := Tryz.sizeOf153
 v55 := Tryz.zeroValue153
 t66 := Tryz.underlying184
 a66 := Tryz.isAgg184
 z66 := Tryz.sizeOf184
 v66 := Tryz.zeroValue184
 t70 := Tryz.underlying188
 a70 := Tryz.isAgg188
 z70 := Tryz.sizeOf188
 v70 := Tryz.zeroValue188
 t76 := Tryz.underlying210
 a76 := Tryz.isAgg210
 z76 := Tryz.sizeOf210
 v76 := Tryz.zeroValue210
 t77 := Tryz.underlying211
 a77 := Tryz.isAgg211
 z77 := Tryz.sizeOf211
 v77 := Tryz.zeroValue211 }
def Tryz.sortLinks_ren : Go.Shelf.Ren := ⟨fun | 6 => 73 | 15 => 59 | 14 => 118 | 28 => 95 | 29 => 96 | 20 => 151 | 21 => 152 | 22 => 153 | 23 => 154 | 24 => 155 | 25 => 156 | 26 => 157 | 27 => 158 | 46 => 173 | 47 => 130 | 48 => 131 | 49 => 174 | 50 => 175 | 57 => 179 | n => n, fun | 22 => 24 | 24 => 50 | 25 => 128 | 3 => 3 | 39 => 109 | 0 => 0 | 53 => 151 | 55 => 153 | 4 => 4 | 46 => 145 | 45 => 144 | 50 => 29 | 5 => 5 | 9 => 9 | 66 => 184 | 70 => 188 | 76 => 210 | 77 => 211 | n => n, fun | n => n⟩
theorem Tryz.sortLinks : Go.Proofs.SlLaysF0.n6 Tryz.prog Tryz.sortLinks_ren := {
 mixed := by kernel_rfl
 f6 := ⟨Tryz.f73.name, by decide, Tryz.func73.trans (congrArg some (by kernel_rfl))⟩
 f14 := ⟨Tryz.f118.name, by decide, Tryz.func118.trans (congrArg some (by kernel_rfl))⟩
 f15 := Tryz.func59.trans (congrArg some (by kernel_rfl))
 f20 := ⟨Tryz.f151.name, by decide, Tryz.func151.trans (congrArg some (by kernel_rfl))⟩
 f21 := ⟨Tryz.f152.name, by decide, Tryz.func152.trans (congrArg some (by kernel_rfl))⟩
 f22 := ⟨Tryz.f153.name, by decide, Tryz.func153.trans (congrArg some (by kernel_rfl))⟩
 f23 := ⟨Tryz.f154.name, by decide, Tryz.func154.trans (congrArg some (by kernel_rfl))⟩
 f24 := ⟨Tryz.f155.name, by decide, Tryz.func155.trans (congrArg some (by kernel_rfl))⟩
 f25 := ⟨Tryz.f156.name, by decide, Tryz.func156.trans (congrArg some (by kernel_rfl))⟩
 f26 := ⟨Tryz.f157.name, by decide, Tryz.func157.trans (congrArg some (by kernel_rfl))⟩
 f27 := ⟨Tryz.f158.name, by decide, Tryz.func158.trans (congrArg some (by kernel_rfl))⟩
 f28 := Tryz.func95.trans (congrArg some (by kernel_rfl))
 f29 := Tryz.func96.trans (congrArg some (by kernel_rfl))
 f46 := ⟨Tryz.f173.name, by decide, Tryz.func173.trans (congrArg some (by kernel_rfl))⟩
 f47 := Tryz.func130.trans (congrArg some (by kernel_rfl))
 f48 := Tryz.func131.trans (congrArg some (by kernel_rfl))
 f49 := ⟨Tryz.f174.name, by decide, Tryz.func174.trans (congrArg some (by kernel_rfl))⟩
 f50 := ⟨Tryz.f175.name, by decide, Tryz.func175.trans (congrArg some (by kernel_rfl))⟩
 f57 := ⟨Tryz.f179.name, by decide, Tryz.func179.trans (congrArg some (by kernel_rfl))⟩
 t0 := Tryz.underlying0
 a0 := Tryz.isAgg0
 z0 := Tryz.sizeOf0
 v0 := Tryz.zeroValue0
 t3 := Tryz.underlying3
 a3 := Tryz.isAgg3
 z3 := Tryz.sizeOf3
 v3 := Tryz.zeroValue3
 t4 := Tryz.underlying4
 a4 := Tryz.isAgg4
 z4 := Tryz.sizeOf4
 v4 := Tryz.zeroValue4
 t5 := Tryz.underlying5
 a5 := Tryz.isAgg5
 z5 := Tryz.sizeOf5
 v5 := Tryz.zeroValue5
 t9 := Tryz.underlying9
 a9 := Tryz.isAgg9
 z9 := Tryz.sizeOf9
 v9 := Tryz.zeroValue9
 t22 := Tryz.underlying24
 a22 := Tryz.isAgg24
 z22 := Tryz.sizeOf24
 v22 := Tryz.zeroValue24
 t25 := Tryz.underlying128
 a25 := Tryz.isAgg128
 z25 := Tryz.sizeOf128
 v25 := Tryz.zeroValue128
 t39 := Tryz.underlying109
 a39 := Tryz.isAgg109
 z39 := Tryz.sizeOf109
 v39 := Tryz.zeroValue109
 t45 := Tryz.underlying144
 a45 := Tryz.isAgg144
 z45 := Tryz.sizeOf144
 v45 := Tryz.zeroValue144
 t46 := Tryz.underlying145
 a46 := Tryz.isAgg145
 z46 := Tryz.sizeOf145
 v46 := Tryz.zeroValue145
 t50 := Tryz.underlying29
 a50 := Tryz.isAgg29
 z50 := Tryz.sizeOf29
 v50 := Tryz.zeroValue29
 t53 := Tryz.underlying151
 a53 := Tryz.isAgg151
 z53 := Tryz.sizeOf151
 v53 := Tryz.zeroValue151
 t55 := Tryz.underlying153
 a55 := Tryz.isAgg153
 z55 := Tryz.sizeOf153
 v55 := Tryz.zeroValue153
 t66 := Tryz.underlying184
 a66 := Tryz.isAgg184
 z66 := Tryz.sizeOf184
 v66 := Tryz.zeroValue184
 t70 := Tryz.underlying188
 a70 := Tryz.isAgg188
 z70 := Tryz.sizeOf188
 v70 := Tryz.zeroValue188
 t76 := Tryz.underlying210
 a76 := Tryz.isAgg210
 z76 := Tryz.sizeOf210
 v76 := Tryz.zeroValue210
 t77 := Tryz.underlying211
 a77 := Tryz.isAgg211
 z77 := Tryz.sizeOf211
 v77 := Tryz.zeroValue211 }
end Go.Proofs
namespace Go.Proofs.YtpcgklagmcnhaaaGreat
open Go.RowKit Go.Maps Go.Sort
theorem flatMap_at {α : Type} {enc : α → List Value} {k : Nat} (hk : ∀ x, (enc x).length = k) : ∀ (l : List α) (t : Nat), t < l.length * k → (l.flatMap enc)[t]? = (l[t / k]?).bind fun x => (enc x)[t % k]?
 | [], t, h => by simp at h
 | x :: l, t, h => by
  rw [List.flatMap_cons]
  have k0 : 0 < k := by
   rcases Nat.eq_zero_or_pos k with q | q
   ·rw [q] at h; simp at h
   exact q
  by_cases ht : t < k
  ·rw [List.getElem?_append_left (by rw [hk]; exact ht), Nat.div_eq_of_lt ht, Nat.mod_eq_of_lt ht]
   simp
  rw [List.getElem?_append_right (by rw [hk]; omega), hk]
  have h2 : t - k < l.length * k := by
   rw [List.length_cons, Nat.add_mul, Nat.one_mul] at h
   omega
  rw [flatMap_at hk l (t - k) h2]
  obtain ⟨u, rfl⟩ : ∃ u, t = u + k := ⟨t - k, by omega⟩
  rw [Nat.add_sub_cancel, Nat.add_div_right _ k0, Nat.add_mod_right]
  rfl
theorem flatMap_len {α : Type} {enc : α → List Value} {k : Nat} (hk : ∀ x, (enc x).length = k) : ∀ (l : List α), (l.flatMap enc).length = l.length * k
 | [] => by simp
 | x :: l => by rw [List.flatMap_cons, List.length_append, flatMap_len hk l, hk, List.length_cons, Nat.add_mul, Nat.one_mul, Nat.add_comm]
section
variable {α : Type} [Inhabited α] {enc : α → List Value} {k : Nat} {w : World} {base g n cap : Nat} {e : TypeId} {xs : List Value} {d : Array α}
theorem flatK_list (hk : ∀ x, (enc x).length = k) : (flatK enc k d).toList = d.toList.flatMap enc := by
 apply List.ext_getElem?
 intro t
 by_cases ht : t < d.size * k
 ·rw [flatMap_at hk _ _ (by simpa using ht)]
  have h1 := get_flatK enc k d t ht
  have hts : t < (flatK enc k d).size := by rw [size_flatK]; exact ht
  rw [getElem!_pos (flatK enc k d) t hts] at h1
  rw [Array.getElem?_toList, Array.getElem?_eq_getElem hts, h1]
  have k0 : 0 < k := by
   rcases Nat.eq_zero_or_pos k with q | q
   ·rw [q] at ht; simp at ht
   exact q
  have hq : t / k < d.size := Nat.div_lt_of_lt_mul (by rw [Nat.mul_comm]; exact ht)
  have hm : t % k < (enc d[t / k]).length := by rw [hk]; exact Nat.mod_lt _ k0
  rw [getElem!_pos d (t / k) hq, getElem!_pos (enc d[t / k]) (t % k) hm]
  simp [hq, hm]
 rw [List.getElem?_eq_none (by simpa using ht), List.getElem?_eq_none (by rw [flatMap_len hk]; simpa using ht)]
theorem k_chg (m : Nat) (os : Array Obj) : Chg [g] w (sortWorldK enc k w g 0 m d os) := sorted_chg id w g m os (flatK enc k d)
theorem k_holds (hk : ∀ x, (enc x).length = k) (h : w.ownsRow base e k (.slice (some ⟨g, 0, none⟩) n cap) n xs) (hd : d.toList.flatMap enc = xs) (hs : d.size = n) : HoldsK enc k w g 0 d := by
 rcases h.2 with ⟨h, -⟩ | ⟨g', cap', cur, hv, hg, hh, h1, h2, h3, h4⟩
 ·cases h
 cases hv
 intro j hj
 rw [size_flatK, hs] at hj
 refine ⟨?_, by simp [World.frozen?, hh]⟩
 have e1 : (cur.toList.take (n * k))[j]? = xs[j]? := by rw [h4]
 rw [List.getElem?_take_of_lt hj] at e1
 simp only [World.cell?, hh, Nat.zero_add, Option.isSome_none, Bool.false_eq_true, if_false]
 rw [← Array.getElem?_toList, e1, ← hd, ← flatK_list hk, Array.getElem?_toList]
 have hj2 : j < (flatK enc k d).size := by rw [size_flatK, hs]; exact hj
 rw [Array.getElem?_eq_getElem hj2, getElem!_pos (flatK enc k d) j hj2]
 rfl
theorem k_owns (hk : ∀ x, (enc x).length = k) {m : Nat} {os : Array Obj} (h : w.ownsRow base e k (.slice (some ⟨g, 0, none⟩) n cap) n xs) (hs : d.size = n) :
  (sortWorldK enc k w g 0 m d os).ownsRow base e k (.slice (some ⟨g, 0, none⟩) n cap) n (d.toList.flatMap enc) := by
 rcases h.2 with ⟨h, -⟩ | ⟨g', cap', cur, hv, hg, hh, h1, h2, h3, h4⟩
 ·cases h
 cases hv
 have hle : n * k ≤ cap * k := Nat.mul_le_mul_right k h1
 refine ⟨by rw [flatMap_len hk]; simp [hs], .inr ⟨g, cap, _, rfl, hg, sorted_heap (enc := id) (flatK enc k d) hh, h1, h2, by simp [putCells, h3], ?_⟩⟩
 have ht := sorted_take id cur (flatK enc k d) (by rw [size_flatK, hs, h3]; exact hle)
 rw [size_flatK, hs, List.map_id, flatK_list hk] at ht
 exact ht
end
theorem sortK_any {α : Type} [Inhabited α] {ρ : Go.Shelf.Ren} (L : SlLaysF0.n6 Tryz.prog ρ) (k : Nat) (aE : ∀ w, (isAgg (ρ.t 24)).run Tryz.prog w = .ok true w) (zE : ∀ w, (Go.sizeOf (ρ.t 24)).run Tryz.prog w = .ok k w) (enc : α → List Value) (hk : ∀ x, (enc x).length = k) (h1 : ∀ x, ∀ v ∈ enc x, v.oneCell' = true) (cf : α → α → Int) (hO : SWO (ltOf cf)) (g : Nat)
  (eg : ∀ args w, (callFunc g args).run Tryz.prog w = .ok (.enter g args) w) (b cap base : Nat) (e : TypeId) (xs : List α) (w : World) (h : w.ownsRow base e k (.slice (some ⟨b, 0, none⟩) xs.length cap) xs.length (xs.flatMap enc)) (hn : xs.length < 4611686018427387904)
  (hcmp : ∀ W, Chg [b] w W → ∀ x y : α, Calls Tryz.prog g #[.agg (enc x).toArray, .agg (enc y).toArray] W fun e w' => e = .returned (.int .i64 (cf x y)) ∧ Chg [] W w' ∧ W.drawn ≤ w'.drawn) :
  Calls Tryz.prog (ρ.f 6) #[.slice (some ⟨b, 0, none⟩) xs.length cap, .func (.func g) #[] #[]] w fun e' w' => e' = .returned (.tuple #[]) ∧ ∃ ys : List α, ys.Perm xs ∧ ys.Pairwise (fun x y => ltOf cf y x = false) ∧ w'.ownsRow base e k (.slice (some ⟨b, 0, none⟩) xs.length cap) xs.length (ys.flatMap enc) ∧ Chg [b] w w' := by
 have hb : b < w.heap.size := owns_lt h rfl
 have hc : CmpLays Tryz.prog g #[] enc k cf b 0 xs.toArray.size w := fun m os dk _ x y => (hcmp _ (k_chg m os) x y).mono fun e' w' ⟨q1, q2, q3⟩ => ⟨q1, grow_of q2 q3⟩
 have hs : xs.toArray.size = xs.length := by simp
 have hcon := AnyQ.slices_SortFunc L k aE zE enc hk h1 cf hO g #[] b 0 cap xs.toArray w eg hc (k_holds hk h (by simp) hs) hb (by rw [hs]; exact hn)
 rw [hs] at hcon
 refine hcon.mono ?_
 rintro e' w' ⟨rfl, d', n, os, hp, hsd, rfl⟩
 obtain ⟨p1, -, p3⟩ := hp
 rw [hs] at p1
 have q1 : d'.extract 0 xs.length = d' := by rw [← p1]; simp
 have q2 : xs.toArray.extract 0 xs.length = xs.toArray := by rw [← hs]; simp
 rw [q1, q2] at p3
 refine ⟨rfl, d'.toList, p3, ?_, k_owns hk h p1, k_chg n os⟩
 rw [List.pairwise_iff_getElem]
 intro i j hi hj hij
 rw [Array.length_toList] at hi hj
 have h4 := hsd i j (Nat.zero_le _) hij (by omega)
 rw [getElem!_pos d' i hi, getElem!_pos d' j hj] at h4
 exact h4
end Go.Proofs.YtpcgklagmcnhaaaGreat
namespace Go.Proofs.YtpcgklagmcnhaaaGreat
open Go.RowKit Go.Maps Go.Sort
namespace Plain
theorem cmpL_lt : ∀ (a b : List Int), cmpL a b < 0 ↔ a < b
 | [], [] => by simp [cmpL]
 | [], y :: b => by simp [cmpL]
 | x :: a, [] => by simp [cmpL]
 | x :: a, y :: b => by
  have ih := cmpL_lt a b
  rw [List.cons_lt_cons_iff]
  unfold cmpL
  by_cases h1 : x < y
  ·rw [if_pos h1]
   simp [h1]
  rw [if_neg h1]
  by_cases h2 : y < x
  ·rw [if_pos h2]
   have : x ≠ y := by omega
   simp [h1, this]
  rw [if_neg h2]
  have : x = y := by omega
  simp [this, ih]
theorem cmpL_swo {α : Type} (f : α → List Int) : Go.Sort.SWO (ltOf fun x y : α => cmpL (f x) (f y)) where
 irrefl x := by
  unfold ltOf
  rw [decide_eq_false_iff_not, cmpL_lt]
  exact List.lt_irrefl _
 trans x y z h1 h2 := by
  unfold ltOf at *
  rw [decide_eq_true_iff, cmpL_lt] at *
  exact List.lt_trans h1 h2
 ntrans x y z h1 h2 := by
  unfold ltOf at *
  rw [decide_eq_false_iff_not, cmpL_lt, List.not_lt] at *
  exact List.le_trans h2 h1
def ordN (x y : Nd) : Prop := cmpL (vertsK y.l) (vertsK x.l) < 0 → False
end Plain
structure NdIn (w : World) (M : Nat) where
 nd : Plain.Nd
 val : Value
 ok : I64 nd.kind ∧ LkRow w 0 val nd.l ∧ nd.l.length ≤ M
def NdIn.enc {w : World} {M : Nat} (z : NdIn w M) : List Value := [.int .i64 z.nd.kind, z.val]
theorem NdIn.one {w : World} {M : Nat} (z : NdIn w M) : ∀ v ∈ z.enc, v.oneCell' = true := by
 intro v hv
 obtain ⟨so, sc, e⟩ := z.ok.2.1.shape
 unfold NdIn.enc at hv
 rw [e] at hv
 simp at hv
 rcases hv with rfl | rfl <;> rfl
theorem nds_in {w : World} {M : Nat} : ∀ (ns : List Plain.Nd) (vs : List Value), vs.length = ns.length → (∀ i, i < ns.length → I64 (Plain.nd0 ns i).kind ∧ LkRow w 0 (vs.getD i undef) (Plain.nd0 ns i).l ∧ (Plain.nd0 ns i).l.length ≤ M) → ∃ zs : List (NdIn w M), zs.map NdIn.nd = ns ∧ zs.map NdIn.val = vs
 | [], [], _, _ => ⟨[], rfl, rfl⟩
 | n :: ns, v :: vs, hl, h => by
  have h0 : I64 n.kind ∧ LkRow w 0 v n.l ∧ n.l.length ≤ M := h 0 (by simp)
  obtain ⟨zs, q1, q2⟩ := nds_in ns vs (by simpa using hl) fun i hi => by
   have := h (i + 1) (by simpa using hi)
   simpa [Plain.nd0] using this
  refine ⟨⟨n, v, h0⟩ :: zs, ?_, ?_⟩
  ·rw [List.map_cons, q1]
  rw [List.map_cons, q2]
theorem nds_cells {w : World} {M : Nat} : ∀ (zs : List (NdIn w M)), zs.flatMap NdIn.enc = ndCells (zs.map NdIn.nd) (zs.map NdIn.val)
 | [] => rfl
 | z :: zs => by
  rw [List.flatMap_cons, nds_cells zs]
  rfl
set_option maxHeartbeats 1000000 in
theorem sortNd_any (v : Value) (vs : List Value) (ns : List Plain.Nd) (B : Nat) (w : World) (h : NdRow w B v vs ns) (hn : ns.length ≤ 100000) (hl : ∀ i, i < ns.length → (Plain.nd0 ns i).l.length ≤ 1000000) :
  Calls Tryz.prog 38 #[v, .func (.func 39) #[] #[]] w fun e w' => e = .returned (.tuple #[]) ∧ ∃ vs' ns', NdRow w' B v vs' ns' ∧ ns'.Perm ns ∧ ns'.Pairwise Plain.ordN ∧ Chg v.ownBlock.toList w w' := by
 obtain ⟨ao, cap, rfl⟩ := h.shape
 by_cases h0 : ns.length = 0
 ·have hcon := AnyF.slices_SortFunc_none { Tryz.sortNodes with } ao cap (.func (.func 39) #[] #[]) w
  change Calls Tryz.prog 38 _ _ _ at hcon
  have hns : ns = [] := List.length_eq_zero_iff.1 h0
  subst hns
  refine hcon.mono ?_
  rintro e w' ⟨rfl, rfl⟩
  exact ⟨rfl, vs, [], h, List.Perm.refl _, List.Pairwise.nil, Chg.refl _ _⟩
 obtain ⟨g, rfl, -, -, cs, hg⟩ := h.some (i := 0) (by omega)
 obtain ⟨zs, q1, q2⟩ := nds_in (w := w) (M := 1000000) ns vs h.len fun i hi => ⟨(h.row i hi).1, (h.row i hi).2, hl i hi⟩
 have hzl : zs.length = ns.length := by rw [← q1]; simp
 obtain ⟨z0, hz0⟩ : ∃ z0 : NdIn w 1000000, z0 ∈ zs := by
  cases zs with
  | nil => rw [← hzl] at h0; simp at h0
  | cons z zs => exact ⟨z, by simp⟩
 haveI : Inhabited (NdIn w 1000000) := ⟨z0⟩
 have hout := h.out
 rw [← q1, ← q2, ← nds_cells, q1, ← hzl] at hout
 have eg : ∀ args w, (callFunc 39 args).run Tryz.prog w = .ok (.enter 39 args) w := enters_of Tryz.func39 (by kernel_rfl) rfl
 have hcon := sortK_any Tryz.sortNodes 2 (fun w => by kernel_rfl) (fun w => by kernel_rfl) NdIn.enc (fun _ => rfl) NdIn.one (fun x y => Plain.cmpL (Plain.vertsK x.nd.l) (Plain.vertsK y.nd.l)) (Plain.cmpL_swo fun x : NdIn w 1000000 => Plain.vertsK x.nd.l) 39 eg g cap B 26 zs w hout (by omega) fun W hW x y => by
  have off : ∀ z : NdIn w 1000000, LksAt W z.val z.nd.l := fun z => (z.ok.2.1.off hW fun b hb cs' t r e => by
   rw [List.mem_singleton.1 hb, hg] at e
   cases e
   decide).lks
  exact newCmp_any x.nd.kind y.nd.kind x.val y.val x.nd.l y.nd.l W (by have := x.ok.2.2; omega) (by have := y.ok.2.2; omega) (off x) (off y)
 change Calls Tryz.prog 38 _ _ _ at hcon
 rw [hzl] at hcon
 refine hcon.mono ?_
 rintro e w' ⟨rfl, ys, hp, hs, how, hc⟩
 have hyl : ys.length = ns.length := by rw [hp.length_eq, hzl]
 refine ⟨rfl, ys.map NdIn.val, ys.map NdIn.nd, ⟨?_, by simp, fun i hi => ?_⟩, by rw [← q1]; exact hp.map _, ?_, hc⟩
 ·rw [nds_cells] at how
  rw [List.length_map, hyl]
  exact how
 ·have hi2 : i < ys.length := by simpa using hi
  have e1 : Plain.nd0 (ys.map NdIn.nd) i = ys[i].nd := by simp [Plain.nd0, List.getD, hi2]
  have e2 : (ys.map NdIn.val).getD i undef = ys[i].val := by simp [List.getD, hi2]
  rw [e1, e2]
  exact ⟨ys[i].ok.1, ys[i].ok.2.1.off hc fun b hb cs' t r e => by
   rw [List.mem_singleton.1 hb, hg] at e
   cases e
   decide⟩
 rw [List.pairwise_map]
 refine hs.imp fun {x y} hxy => ?_
 unfold ltOf at hxy
 rw [decide_eq_false_iff_not] at hxy
 exact hxy
end Go.Proofs.YtpcgklagmcnhaaaGreat
