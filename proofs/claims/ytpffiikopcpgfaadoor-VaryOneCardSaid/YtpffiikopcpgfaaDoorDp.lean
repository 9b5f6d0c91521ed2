/- slices.Sort and slices.Compact of texts, vary.Names, the document's Names. -/
import Derived.Test.YtpffiikopcpgfaaDoorDo
import Derived.Test.YtpffiikopcpgfaaDoorProg
import Derived.Shelf.Lays
import Derived.Shelf.Sort.Plain
import Derived.Shelf.Slices.In.SortNone
import Derived.Shelf.Slices.CompactS
import Derived.Sort.Walk0
set_option linter.all false
/-! part TrydSort -/
namespace Go.Proofs
open Go.Shelf
def Tryd.renS : Go.Shelf.Ren := ⟨fun | 190 => 77 | 194 => 78 | 125 => 105 | 128 => 129 | 129 => 130 | 258 => 104 | 302 => 120 | 303 => 121 | 304 => 122 | 305 => 123 | 306 => 124 | 307 => 125 | 308 => 126 | 309 => 127 | 310 => 128 | 329 => 148 | 330 => 149 | 333 => 147 | 334 => 150 | 335 => 151 | 336 => 152 | 344 => 160 | n => n, fun | 31 => 36 | 46 => 123 | 51 => 139 | 53 => 141 | 131 => 73 | 182 => 132 | 183 => 133 | 218 => 155 | 222 => 89 | 228 => 161 | 229 => 44 | n => n, fun | n => n⟩
theorem Tryd.l190 : Go.Proofs.Lays.n190 Tryd.prog Tryd.renS := {
  mixed := by kernel_rfl
  f125 := Tryd.func105.trans (congrArg some (by kernel_rfl))
  f128 := Tryd.func129.trans (congrArg some (by kernel_rfl))
  f129 := Tryd.func130.trans (congrArg some (by kernel_rfl))
  f190 := Tryd.func77.trans (congrArg some (by kernel_rfl))
  f258 := Tryd.func104.trans (congrArg some (by kernel_rfl))
  f302 := Tryd.func120.trans (congrArg some (by kernel_rfl))
  f303 := Tryd.func121.trans (congrArg some (by kernel_rfl))
  f304 := Tryd.func122.trans (congrArg some (by kernel_rfl))
  f305 := Tryd.func123.trans (congrArg some (by kernel_rfl))
  f306 := Tryd.func124.trans (congrArg some (by kernel_rfl))
  f307 := Tryd.func125.trans (congrArg some (by kernel_rfl))
  f308 := Tryd.func126.trans (congrArg some (by kernel_rfl))
  f309 := Tryd.func127.trans (congrArg some (by kernel_rfl))
  f310 := Tryd.func128.trans (congrArg some (by kernel_rfl))
  f329 := Tryd.func148.trans (congrArg some (by kernel_rfl))
  f330 := Tryd.func149.trans (congrArg some (by kernel_rfl))
  f333 := Tryd.func147.trans (congrArg some (by kernel_rfl))
  f334 := Tryd.func150.trans (congrArg some (by kernel_rfl))
  f335 := Tryd.func151.trans (congrArg some (by kernel_rfl))
  f336 := Tryd.func152.trans (congrArg some (by kernel_rfl))
  f344 := Tryd.func160.trans (congrArg some (by kernel_rfl))
  t0 := Tryd.underlying0
  a0 := Tryd.isAgg0
  z0 := Tryd.sizeOf0
  v0 := Tryd.zeroValue0
  t3 := Tryd.underlying3
  a3 := Tryd.isAgg3
  z3 := Tryd.sizeOf3
  v3 := Tryd.zeroValue3
  t4 := Tryd.underlying4
  a4 := Tryd.isAgg4
  z4 := Tryd.sizeOf4
  v4 := Tryd.zeroValue4
  t5 := Tryd.underlying5
  a5 := Tryd.isAgg5
  z5 := Tryd.sizeOf5
  v5 := Tryd.zeroValue5
  t9 := Tryd.underlying9
  a9 := Tryd.isAgg9
  z9 := Tryd.sizeOf9
  v9 := Tryd.zeroValue9
  t31 := Tryd.underlying36
  a31 := Tryd.isAgg36
  z31 := Tryd.sizeOf36
  v31 := Tryd.zeroValue36
  t46 := Tryd.underlying123
  a46 := Tryd.isAgg123
  z46 := Tryd.sizeOf123
  v46 := Tryd.zeroValue123
  t51 := Tryd.underlying139
  a51 := Tryd.isAgg139
  z51 := Tryd.sizeOf139
  v51 := Tryd.zeroValue139
  t53 := Tryd.underlying141
  a53 := Tryd.isAgg141
  z53 := Tryd.sizeOf141
  v53 := Tryd.zeroValue141
  t131 := Tryd.underlying73
  a131 := Tryd.isAgg73
  z131 := Tryd.sizeOf73
  v131 := Tryd.zeroValue73
  t182 := Tryd.underlying132
  a182 := Tryd.isAgg132
  z182 := Tryd.sizeOf132
  v182 := Tryd.zeroValue132
  t183 := Tryd.underlying133
  a183 := Tryd.isAgg133
  z183 := Tryd.sizeOf133
  v183 := Tryd.zeroValue133
  t218 := Tryd.underlying155
  a218 := Tryd.isAgg155
  z218 := Tryd.sizeOf155
  v218 := Tryd.zeroValue155
  t222 := Tryd.underlying89
  a222 := Tryd.isAgg89
  z222 := Tryd.sizeOf89
  v222 := Tryd.zeroValue89
  t228 := Tryd.underlying161
  a228 := Tryd.isAgg161
  z228 := Tryd.sizeOf161
  v228 := Tryd.zeroValue161
  t229 := Tryd.underlying44
  a229 := Tryd.isAgg44
  z229 := Tryd.sizeOf44
  v229 := Tryd.zeroValue44
  }
theorem Tryd.l194 : Go.Proofs.Lays.n194 Tryd.prog Tryd.renS := {
  mixed := by kernel_rfl
  f194 := Tryd.func78.trans (congrArg some (by kernel_rfl))
  t0 := Tryd.underlying0
  a0 := Tryd.isAgg0
  z0 := Tryd.sizeOf0
  v0 := Tryd.zeroValue0
  t3 := Tryd.underlying3
  a3 := Tryd.isAgg3
  z3 := Tryd.sizeOf3
  v3 := Tryd.zeroValue3
  t4 := Tryd.underlying4
  a4 := Tryd.isAgg4
  z4 := Tryd.sizeOf4
  v4 := Tryd.zeroValue4
  t9 := Tryd.underlying9
  a9 := Tryd.isAgg9
  z9 := Tryd.sizeOf9
  v9 := Tryd.zeroValue9
  t31 := Tryd.underlying36
  a31 := Tryd.isAgg36
  z31 := Tryd.sizeOf36
  v31 := Tryd.zeroValue36
  }
end Go.Proofs

/-! part Q82 -/
namespace Go.Av
open Go.RowKit Go.Proofs Go.Sort

theorem SatW.below {w0 : World} {M0 : Mem} {F : Nat → Prop} {tb : Tb} {g : G} {w w' : World} (h : SatW w0 M0 F tb g w) (hB : Below w.heap.size w w') : SatW w0 M0 F tb g w' := by
  have hH : Go.Av.Holds w' g.M := fun b o v e => by
    have h1 := h.holds b o v e
    have hb : b < w.heap.size := World.block_lt_of_cell? w _ h1
    rw [← h1]
    exact World.cell?_of_block (a := ⟨b, o, none⟩) (hB.block b hb)
  exact h.later (N := g.M) (Mem.le_refl _) hH (fun _ _ => rfl) hB
theorem below_grow (w : World) (os : Array Obj) : Below w.heap.size w (grow w os) :=
  ⟨rfl, rfl, rfl, by simp, fun k hk => by simp only [grow]; rw [Array.getElem?_append_left hk]⟩
theorem putCells_size {α : Type} [Inhabited α] (enc : α → Value) (d : Array α) (c : Array Value) : (putCells enc 0 d c).size = c.size := by simp [putCells]
theorem putCells_get {α : Type} [Inhabited α] (enc : α → Value) (d : Array α) (c : Array Value) (k : Nat) : (putCells enc 0 d c)[k]? = if k < d.size ∧ k < c.size then some (enc d[k]!) else c[k]? := by
  unfold putCells
  rw [Array.getElem?_mapIdx]
  by_cases hk : k < c.size
  · rw [Array.getElem?_eq_getElem hk]
    by_cases hd : k < d.size
    · simp [hd, hk]
    · simp [hd]
  · rw [Array.getElem?_eq_none (by omega)]
    simp [hk]
theorem repVs_strs {g : G} : ∀ (l : List (List UInt8)), RepVs g (l.map encStr) ((l.map PC.str).map .p)
  | [] => .nil
  | a :: l => .cons (.p (.sc _ rfl)) (repVs_strs l)
/-- a row of texts is put anew -/
theorem SatW.putStr {w0 : World} {M0 : Mem} {F : Nat → Prop} {tb : Tb} {g : G} {w : World} (h : SatW w0 M0 F tb g w) {id b c : Nat} {o : Ob} (e : lk id tb.bx = some o) (hg : g.ob id = some (b, c)) (hc0 : 0 < c) (hsz : o.sz = 1) (hel : o.el < frM)
    (zs : List (List UInt8)) (hz : zs.length ≤ c) (n : Nat) (os : Array Obj) : SatW w0 M0 F (tb.setOb id { o with xs := (zs.map PC.str).map .p }) g (grow (putRow encStr (Sort.ahead w n) b 0 zs.toArray) os) := by
  obtain ⟨cur, e2, e3, ⟨tt, fz, e4, efz⟩, e5, e6, e7, e8, e9⟩ := (h.boxes id o e).real hg hc0
  have hcs : cur.size = c := by rw [e5, hsz, Nat.mul_one]
  have hget := putCells_get encStr zs.toArray cur
  have hsz' := putCells_size encStr zs.toArray cur
  have htake : (putCells encStr 0 zs.toArray cur).toList.take zs.length = zs.map encStr := by
    apply List.ext_getElem?
    intro k
    rw [List.getElem?_take, List.getElem?_map]
    by_cases hk : k < zs.length
    · rw [if_pos hk, Array.getElem?_toList, hget, if_pos ⟨by simpa using hk, by omega⟩, List.getElem?_eq_getElem hk]
      simp [hk]
    · rw [if_neg hk, List.getElem?_eq_none (by omega)]; rfl
  have h1 : SatW w0 M0 F (tb.setOb id { o with xs := (zs.map PC.str).map .p }) g (putRow encStr (Sort.ahead w n) b 0 zs.toArray) := by
    refine h.chgOb e hg hc0 e4 rfl rfl rfl (by simp [putRow, mapBlock, Sort.ahead]) (fun k hk => ?_) (cur' := putCells encStr 0 zs.toArray cur) (tt' := tt) (fz' := fz) ?_ hsz' (fun q => by rw [hsz']; exact q) rfl (by simp [hsz']; omega) ?_ ?_
    · simp only [putRow, mapBlock, Sort.ahead]
      rw [Array.getElem?_modify, if_neg (by omega)]
    · simp only [putRow, mapBlock, Sort.ahead]
      rw [Array.getElem?_modify, if_pos rfl, e4]; rfl
    · simp only [List.length_map]
      rw [htake]
      exact repVs_strs zs
    · intro v hv
      obtain ⟨k, hk⟩ := List.getElem?_of_mem hv
      rw [Array.getElem?_toList, hget] at hk
      split at hk
      · injection hk with hk; subst hk; rfl
      · exact e9 v (List.mem_of_getElem? (by rw [Array.getElem?_toList]; exact hk))
  exact h1.below (below_grow _ _)
theorem repVs_strs_inv {g : G} : ∀ {vs : List Value} {l : List (List UInt8)}, RepVs g vs ((l.map PC.str).map .p) → vs = l.map encStr
  | _, [], .nil => rfl
  | _, a :: l, .cons h hs => by
    have h1 := repV_p h
    cases h1
    rw [repVs_strs_inv hs]; rfl
theorem putStr_holds {w0 : World} {M0 : Mem} {F : Nat → Prop} {tb : Tb} {g : G} {w : World} (h : SatW w0 M0 F tb g w) {id b c : Nat} (ss : List (List UInt8)) (e : lk id tb.bx = some ⟨9, 1, (ss.map PC.str).map .p⟩) (hg : g.ob id = some (b, c)) (hc0 : 0 < c) :
    Go.Sort.Holds encStr w b 0 ss.toArray := by
  obtain ⟨cur, e2, e3, ⟨tt, fz, e4, efz⟩, e5, e6, e7, e8, e9⟩ := (h.boxes id _ e).real hg hc0
  obtain ⟨rfl, rfl⟩ := efz.low (show (9 : Nat) < frM by decide)
  simp only [List.length_map] at e7 e8
  have hi := repVs_strs_inv e8
  intro j hj
  simp only [List.size_toArray] at hj
  have hcell : cur[j]? = some (encStr ss[j]) := by
    have := congrArg (fun l => l[j]?) hi
    simp only [List.getElem?_take, List.getElem?_map, if_pos hj, Array.getElem?_toList, List.getElem?_eq_getElem hj] at this
    exact this
  refine ⟨?_, ?_⟩
  · unfold World.cell?
    simp only [e4, Nat.zero_add]
    simp [hcell, hj]
  · unfold World.frozen?
    simp [e4]
theorem view_blk {w0 : World} {M0 : Mem} {F : Nat → Prop} {tb : Tb} {g : G} {w : World} (h : SatW w0 M0 F tb g w) {id b c : Nat} {o : Ob} (e : lk id tb.bx = some o) (hg : g.ob id = some (b, c)) (hc0 : 0 < c) : b < w.heap.size := by
  obtain ⟨cur, e2, e3, ⟨tt, fz, e4, efz⟩, e5, e6, e7, e8, e9⟩ := (h.boxes id _ e).real hg hc0
  exact heap_lt e4
abbrev rowTx (l : List (List UInt8)) : Ob := ⟨9, 1, (l.map PC.str).map .p⟩
def sortS (l : List (List UInt8)) : List (List UInt8) := l.mergeSort fun x y => decide (x ≤ y)
theorem gsort77 (nx id : Nat) (ss : List (List UInt8)) (hsz : ss.length ≤ 1000000) : GenC Tryd.prog 77 [.view id 0 ss.length 1 none] ⟨[(id, rowTx ss)], [], nx⟩ (.agg true []) ⟨[(id, rowTx (sortS ss))], [], nx⟩ := by
  refine ⟨⟨_, Tryd.func77, by kernel_rfl, by kernel_rfl⟩, fun g w vs F hw hvs => ?_⟩
  cases hvs with
  | cons h hs =>
  cases hs
  cases h with
  | view hg hn hc ha hm =>
  rename_i b c a
  have hl : lk id (⟨[(id, rowTx ss)], [], nx⟩ : Tb).bx = some (rowTx ss) := by simp [lk]
  cases ha with
  | real off h0 ha ho =>
    have hoff := ho (.inr rfl)
    simp at hoff
    subst ha; subst hoff
    have hH := putStr_holds hw ss hl hg h0
    refine (Any.slices_Sort_string Tryd.l190 b 0 (c - 0) ss w hH (view_blk hw hl hg h0) (by omega)).mono ?_
    rintro e w' ⟨rfl, n, os, rfl⟩
    have hS := hw.putStr hl hg h0 rfl (show (9 : Nat) < frM by decide) (sortS ss) (by simp [sortS]; omega) n os
    have ht : (⟨[(id, rowTx ss)], [], nx⟩ : Tb).setOb id { rowTx ss with xs := ((sortS ss).map PC.str).map .p } = ⟨[(id, rowTx (sortS ss))], [], nx⟩ := by simp [Tb.setOb, del]
    rw [ht] at hS
    exact ⟨_, g, rfl, G.le_refl g, hS, .tup (vs := []) .nil⟩
  | void h0 ha =>
    have hs0 : ss = [] := List.eq_nil_of_length_eq_zero (by omega)
    subst hs0
    refine (Any.slices_Sort_string_none Tryd.l190 a (c - 0) w).mono ?_
    rintro e w' ⟨rfl, rfl⟩
    have e0 : sortS [] = [] := by simp [sortS]
    rw [e0]
    exact ⟨_, g, rfl, G.le_refl g, hw, .tup (vs := []) .nil⟩
theorem compact_len (ss : List (List UInt8)) : (Lib.compact ss).length ≤ ss.length := by
  unfold Lib.compact Lib.compactUpTo
  rw [List.length_map]
  exact Nat.le_trans (List.length_filter_le _ _) (by simp)
theorem gcompact78 (nx id : Nat) (ss : List (List UInt8)) (hsz : ss.length ≤ 1000000) : GenC Tryd.prog 78 [.view id 0 ss.length 1 none] ⟨[(id, rowTx ss)], [], nx⟩ (.view id 0 (Lib.compact ss).length 1 none)
    ⟨[(id, rowTx (Lib.compact ss ++ List.replicate (ss.length - (Lib.compact ss).length) []))], [], nx⟩ := by
  refine ⟨⟨_, Tryd.func78, by kernel_rfl, by kernel_rfl⟩, fun g w vs F hw hvs => ?_⟩
  cases hvs with
  | cons h hs =>
  cases hs
  cases h with
  | view hg hn hc ha hm =>
  rename_i b c a
  have hl : lk id (⟨[(id, rowTx ss)], [], nx⟩ : Tb).bx = some (rowTx ss) := by simp [lk]
  have hlen := compact_len ss
  cases ha with
  | real off h0 ha ho =>
    have hoff := ho (.inr rfl)
    simp at hoff
    subst ha; subst hoff
    have hH := putStr_holds hw ss hl hg h0
    refine (Any.slices_Compact_string Tryd.l194 b 0 (c - 0) ss w hH (by omega) (by omega)).mono ?_
    rintro e w' ⟨rfl, n, rfl⟩
    have hS := hw.putStr hl hg h0 rfl (show (9 : Nat) < frM by decide) (Lib.compact ss ++ List.replicate (ss.length - (Lib.compact ss).length) []) (by simp; omega) n #[]
    rw [grow_empty] at hS
    have ht : (⟨[(id, rowTx ss)], [], nx⟩ : Tb).setOb id { rowTx ss with xs := ((Lib.compact ss ++ List.replicate (ss.length - (Lib.compact ss).length) []).map PC.str).map .p } = ⟨[(id, rowTx (Lib.compact ss ++ List.replicate (ss.length - (Lib.compact ss).length) []))], [], nx⟩ := by simp [Tb.setOb, del]
    rw [ht] at hS
    exact ⟨_, g, rfl, G.le_refl g, hS, .view hg (by omega) hc (.real 0 h0 rfl (fun _ => by simp)) (fun k hk => by cases hk)⟩
  | void h0 ha =>
    have hs0 : ss = [] := List.eq_nil_of_length_eq_zero (by omega)
    subst hs0
    refine (Any.slices_Compact_string_empty Tryd.l194 a (c - 0) w).mono ?_
    rintro e w' ⟨rfl, rfl⟩
    exact ⟨_, g, rfl, G.le_refl g, hw, .view hg (by simpa using hn) hc (.void h0 ha) (fun k hk => by cases hk)⟩
/-- a slot that holds no list: a row without room -/
theorem le_voidS {nx0 : Nat} {st : AS} (t : Nat) (el : TypeId) (s : Nat) (h : isNone (st.sl t)) : st.le nx0 ⟨upd st.sl t (.view st.tb.nx 0 0 s none), st.tb.addOb ⟨el, s, []⟩⟩ := by
  rintro fr a w hf ⟨g, h0, h1, h2, h3, h4⟩
  obtain ⟨ad, hv, hva⟩ : ∃ ad, a.tmps.getD t undef = .slice ad 0 0 ∧ (ad = none ∨ ∃ a', ad = some a') := by
    have := h2 t
    generalize a.tmps.getD t undef = v at this ⊢
    unfold isNone at h
    split at h
    · rename_i e; rw [e] at this
      cases this with
      | full hr => cases hr with
        | nilsl => exact ⟨none, rfl, .inl rfl⟩
        | sl0 a => exact ⟨_, rfl, .inr ⟨_, rfl⟩⟩
        | sl hn _ _ _ _ _ _ hs => have := hs.length; simp at this; rw [this] at hn; simp at hn; subst hn; exact ⟨_, rfl, .inr ⟨_, rfl⟩⟩
    · rename_i e; rw [e] at this
      have := repV_p this
      cases this; exact ⟨none, rfl, .inl rfl⟩
    · exact h.elim
  refine ⟨_, h0.trans (h1.leOb 0 0), h1.voidOb el s, fun u => ?_, h3, h4⟩
  simp only [upd]
  split
  · rename_i e; subst e; rw [hv]
    have := RepV.view (g := g.obAt st.tb.nx 0 0) (id := st.tb.nx) (b := 0) (c := 0) (o := 0) (n := 0) (s := s) (a := ad) (m := none) (by simp [G.obAt]) (by omega) (by unfold maxLen; omega) (.void rfl hva) (by simp)
    simpa using this
  · exact (h2 u).mono (h1.leOb 0 0)
end Go.Av

/-! part Q84 -/
namespace Go.Av
open Go.Proofs

def okP (p : List UInt8) : Bool := !(p == [42]) && tkB p
/-- the names that pieces tell, as they come -/
def namesF (ps : List (List UInt8)) : Option (List (List UInt8)) := if ps.all okP = true then some (ps.map lowB) else none
def varyN (vs : List (List UInt8)) : Option (List (List UInt8)) := (namesF (splitB vs)).map fun l => Lib.compact (sortS l)
def nmZ : Option (List (List UInt8)) → List AV
  | some l => [.view 0 0 l.length 1 none, .p (.bool true)]
  | none => [.p .nil, .p (.bool false)]
def nmR : Option (List (List UInt8)) → AV
  | some l => .agg true [.view 0 0 l.length 1 none, .p (.bool true)]
  | none => .agg true [.p .nil, .p (.bool false)]
def nmT (n : Nat) : Option (List (List UInt8)) → Tb
  | some l => ⟨[(0, rowTx (l ++ List.replicate (n - l.length) []))], [], 1⟩
  | none => ⟨[], [], 0⟩
set_option maxHeartbeats 2000000 in
set_option maxRecDepth 100000 in
theorem gnames40 (vs : List (List UInt8)) (hv : vs.length ≤ 1000000) (ht : totB vs ≤ 1000000) (hl : ∀ v ∈ vs, v.length ≤ 1000000) : GenC Tryd.prog 40 [.p (.sl (vs.map PC.str))] ⟨[], [], 0⟩ (nmR (varyN vs)) (nmT (splitB vs).length (varyN vs)) := by
  have hs := split63 vs hv ht hl
  have hR := splitB_len vs
  have hp := piece_len hl
  unfold varyN
  generalize splitB vs = ps at *
  obtain ⟨R, hRe⟩ : ∃ R, R = namesF ps := ⟨_, rfl⟩
  rw [← hRe]
  refine gen_of_aw (rs := nmZ (R.map fun l => Lib.compact (sortS l))) [25] [] [] mixed Tryd.func40 rfl (by kernel_rfl) (by kernel_rfl) (by simp [Tryd.ntmps40]) (by cases R <;> rfl) ?_
  simp
  refine pcall_of hs (by simp) ?_
  simp
  refine aw_loop (fun y : Nat × List (List UInt8) => y.1 ≤ ps.length ∧ y.2 = (ps.take y.1).map lowB ∧ (ps.take y.1).all okP = true) (fun y => [(4, .view 0 0 y.2.length 1 none), (8, .p (.sl (ps.map PC.str))), (9, .p (.int ps.length)), (10, .p (.int y.1))])
    (fun y => ⟨[(0, rowTx y.2)], [], 1⟩) (fun y => ps.length - y.1) (0, []) ⟨by simp, by simp, by simp⟩ _ (le_voidS 4 9 1 (by simp [isNone])) (leN_id (by simp)) ?_
  rintro ⟨k, out⟩ ⟨h1, h2, h3⟩
  simp only at h1 h2 h3
  have hol : out.length = k := by rw [h2]; simp; omega
  by_cases ck : k < ps.length
  case neg =>
    obtain rfl : k = ps.length := by omega
    rw [List.take_length] at h2 h3
    have e : R = some out := by rw [hRe]; unfold namesF; rw [if_pos h3, ← h2]
    subst e
    simp
    refine gcall_of0 (gsort77 1 0 out (by omega)) (by simp [hol]) (by simp [sub1]) trivial rfl ?_
    simp
    have hsl : (sortS out).length = out.length := by simp [sortS]
    refine gcall_of0 (gcompact78 1 0 (sortS out) (by omega)) (by simp [hol, hsl]) (by simp [sub1]) trivial rfl ?_
    simp [Tryd.results40, nmZ, nmT]
    exact ⟨[], by simp [hsl, hol]⟩
  have hpl := hp ps[k] (List.getElem_mem ck)
  have hno : okP ps[k] = false → R = none := fun h => by
    rw [hRe]; unfold namesF
    rw [if_neg]
    intro hc
    have := List.all_eq_true.1 hc ps[k] (List.getElem_mem ck)
    rw [h] at this; cases this
  simp [ck]
  by_cases c1 : ps[k] = [42]
  · have d : (ps[k] == [42]) = true := by simpa using c1
    have e := hno (by unfold okP; rw [d]; rfl)
    subst e
    simp [d, Tryd.results40, nmZ, nmT]
  · have d : (ps[k] == [42]) = false := by simpa using c1
    simp [d]
    refine pcall_of (token52 ps[k] (by omega)) (by simp) ?_
    rw [show (decide (ps[k] ≠ []) && ps[k].all tokB) = tkB ps[k] from rfl]
    cases c2 : tkB ps[k] with
    | false =>
      have e := hno (by unfold okP; rw [c2]; simp)
      subst e
      simp [Tryd.results40, nmZ, nmT]
    | true =>
      simp
      refine pcall_of (lower76 ps[k] (by omega)) (by simp) ?_
      simp
      refine ⟨by omega, by omega, k + 1, out ++ [lowB ps[k]], ⟨by omega, ?_, ?_⟩, by omega, leN_of [(0, 1)] ?_⟩
      · rw [← List.map_take, List.take_succ_eq_append_getElem ck, List.map_append, ← h2]; rfl
      · intro x hx
        rw [List.take_succ_eq_append_getElem ck] at hx
        rcases List.mem_append.1 hx with hx | hx
        · exact List.all_eq_true.1 h3 x hx
        · simp at hx; subst hx; unfold okP; rw [c2]; simpa using c1
      · have e := List.take_of_length_le (l := out.map (AV.p ∘ PC.str)) (i := out.length) (by simp)
        simp [wrap64_id (n := (k : Int) + 1) (by omega) (by omega), e, pcCells]
end Go.Av

/-! part Q85 -/
namespace Go.Av
open Go.Proofs

theorem names40 (vs : List (List UInt8)) (hv : vs.length ≤ 1000000) (ht : totB vs ≤ 1000000) (hl : ∀ v ∈ vs, v.length ≤ 1000000) : PureC Tryd.prog 40 [.sl (vs.map PC.str)] (.tp [.sl (((varyN vs).getD []).map PC.str), .bool (varyN vs).isSome]) := by
  have h := gnames40 vs hv ht hl
  refine pure_of_gen h ?_
  generalize varyN vs = R
  cases R with
  | none => simp [nmR, nmT, borF, all2]
  | some l =>
    have e : ∀ l : List (List UInt8), (l.map PC.str).flatMap pcs = l.map PC.str := fun l => by
      induction l with
      | nil => rfl
      | cons a l ih => rw [List.map_cons, List.flatMap_cons, ih]; rfl
    simp [nmR, nmT, borF, all2, e]
@[simp] theorem u8_lt {x y : UInt8} : (decide ((x.toNat : Int) < (y.toNat : Int))) = decide (x < y) := by
  simp [UInt8.lt_iff_toNat_lt]
@[simp] theorem u8_ne {x y : UInt8} : ((x.toNat : Int) != (y.toNat : Int)) = (x != y) := by
  rw [Bool.eq_iff_iff]; simp [← UInt8.toNat_inj]; omega

theorem less_at {a b : List UInt8} {k : Nat} (h : a.take k = b.take k) (ha : k ≤ a.length) (hb : k ≤ b.length) : Op.bytesLess a b = Op.bytesLess (a.drop k) (b.drop k) := by
  induction k generalizing a b with
  | zero => simp
  | succ k ih =>
    match a, b, ha, hb with
    | x :: a, y :: b, ha, hb =>
      simp at h ha hb
      obtain ⟨rfl, h⟩ := h
      simp [Op.bytesLess, ih h ha hb]

theorem less_ne {a b : List UInt8} {k : Nat} (h : a.take k = b.take k) (ha : k < a.length) (hb : k < b.length) (hn : a[k] ≠ b[k]) : Op.bytesLess a b = decide (a[k] < b[k]) := by
  rw [less_at h (by omega) (by omega), List.drop_eq_getElem_cons ha, List.drop_eq_getElem_cons hb]
  simp [Op.bytesLess, hn]
theorem less_end {a b : List UInt8} {k : Nat} (h : a.take k = b.take k) (ha : k ≤ a.length) (hb : k ≤ b.length) (hn : k = a.length ∨ k = b.length) : Op.bytesLess a b = decide (a.length < b.length) := by
  rw [less_at h ha hb]
  rcases hn with rfl | rfl
  · rw [List.drop_length]
    cases hd : b.drop a.length with
    | nil => have := congrArg List.length hd; simp at this; simp [Op.bytesLess]; omega
    | cons x l => have := congrArg List.length hd; simp at this; simp [Op.bytesLess]; omega
  · rw [List.drop_length]
    simp [Op.bytesLess]; omega

set_option maxHeartbeats 400000 in
theorem less79b (a b : List UInt8) (ha : a.length ≤ 9223372036854775807) (hb : b.length ≤ 9223372036854775807) : PureC Tryd.prog 79 [.str a, .str b] (.bool (Op.bytesLess a b)) := by
  refine pure_of_aw (ys := [.bool _]) [] [] [] mixed Tryd.func79 rfl (by kernel_rfl) (by kernel_rfl) (by simp [Tryd.ntmps79]) rfl ?_
  simp
  refine aw_loop0 (fun k : Nat => k ≤ a.length ∧ k ≤ b.length ∧ a.take k = b.take k) (fun k => [(0, .p (.str a)), (1, .p (.str b)), (5, .p (.int k))]) (fun k => a.length - k) 0 (by simp) (leN_id (by simp)) ?_
  rintro k ⟨h1, h2, h3⟩
  by_cases c1 : k < a.length
  · by_cases c2 : k < b.length
    · by_cases c3 : a[k] = b[k]
      · simp [c1, c2, c3]
        refine ⟨k + 1, ⟨by omega, by omega, ?_⟩, by omega, leN_id ?_⟩
        · rw [List.take_succ_eq_append_getElem c1, List.take_succ_eq_append_getElem c2, h3, c3]
        · simp [wrap64_id (n := (k : Int) + 1) (by omega) (by omega)]
      · have c4 : (a[k] != b[k]) = true := by simpa using c3
        simp [c1, c2, c4, Tryd.results79, less_ne h3 c1 c2 c3, UInt8.lt_iff_toNat_lt]
    · simp [c1, c2, Tryd.results79, less_end h3 h1 h2 (by omega)]
  · simp [c1, Tryd.results79, less_end h3 h1 h2 (by omega)]
theorem less79 (a b : List UInt8) (ha : a.length ≤ 1000000000) (hb : b.length ≤ 1000000000) : PureC Tryd.prog 79 [.str a, .str b] (.bool (decide (a < b))) := by
  have := less79b a b (by omega) (by omega)
  rwa [bytesLess_eq] at this
end Go.Av

/-! part Q86 -/
namespace Go.Av
open Go.Proofs

def atU (out : List (List UInt8)) (s : List UInt8) : Nat := (out.takeWhile fun x => decide (x < s)).length
def insU (out : List (List UInt8)) (s : List UInt8) : List (List UInt8) := if out[atU out s]? = some s then out else out.take (atU out s) ++ s :: out.drop (atU out s)
def rnamesN (vs : List (List UInt8)) : Option (List (List UInt8)) := (namesF (splitB vs)).map fun l => l.foldl insU []
theorem atU_le (out : List (List UInt8)) (s : List UInt8) : atU out s ≤ out.length := (List.takeWhile_sublist _).length_le
theorem atU_eq {out : List (List UInt8)} {s : List UInt8} {k : Nat} (h1 : k ≤ out.length) (h2 : ∀ x ∈ out.take k, x < s) (h3 : ∀ h : k < out.length, ¬ out[k] < s) : atU out s = k := by
  unfold atU
  induction out generalizing k with
  | nil => simp at h1; simp [h1]
  | cons a out ih =>
    cases k with
    | zero =>
      have := h3 (by simp)
      simp at this
      rw [List.takeWhile_cons, if_neg (by simpa using this)]; rfl
    | succ k =>
      have ha := h2 a (by simp)
      rw [List.takeWhile_cons, if_pos (by simpa using ha), List.length_cons]
      rw [ih (k := k) (by simpa using h1) (fun x hx => h2 x (by simp [hx])) (fun h => by have := h3 (by simpa using h); simpa using this)]
theorem insU_len (out : List (List UInt8)) (s : List UInt8) : (insU out s).length ≤ out.length + 1 := by
  unfold insU; split
  · omega
  · have := atU_le out s; simp; omega
theorem insU_mem {out : List (List UInt8)} {s x : List UInt8} (h : x ∈ insU out s) : x = s ∨ x ∈ out := by
  unfold insU at h; split at h
  · exact .inr h
  · rcases List.mem_append.1 h with h | h
    · exact .inr (List.mem_of_mem_take h)
    · rcases List.mem_cons.1 h with h | h
      · exact .inl h
      · exact .inr (List.mem_of_mem_drop h)
theorem lowB_len (l : List UInt8) : (lowB l).length = l.length := by simp [lowB]
set_option maxHeartbeats 4000000 in
set_option maxRecDepth 100000 in
theorem rnames41 (vs : List (List UInt8)) (hv : vs.length ≤ 1000000) (ht : totB vs ≤ 1000000) (hl : ∀ v ∈ vs, v.length ≤ 1000000) : PureC Tryd.prog 41 [.sl (vs.map PC.str)] (.tp [.sl (((rnamesN vs).getD []).map PC.str), .bool (rnamesN vs).isSome]) := by
  have hs := rsplit49 vs hv ht hl
  have hR := splitB_len vs
  have hp := piece_len hl
  unfold rnamesN
  generalize splitB vs = ps at *
  obtain ⟨R, hRe⟩ : ∃ R, R = (namesF ps).map fun l => l.foldl insU [] := ⟨_, rfl⟩
  rw [← hRe]
  refine pure_of_aw (ys := [.sl ((R.getD []).map PC.str), .bool R.isSome]) [] [] [] mixed Tryd.func41 rfl (by kernel_rfl) (by kernel_rfl) (by simp [Tryd.ntmps41]) rfl ?_
  simp
  refine pcall_of hs (by simp) ?_
  simp
  refine aw_loop (fun y : Nat × List (List UInt8) => y.1 ≤ ps.length ∧ y.2 = ((ps.take y.1).map lowB).foldl insU [] ∧ (ps.take y.1).all okP = true ∧ y.2.length ≤ y.1 ∧ ∀ x ∈ y.2, x.length ≤ 1000000) (fun y => [(4, .p (.sl (ps.map PC.str))), (5, .own 0 (y.2.map PC.str)), (6, .p (.int y.1))])
    (fun y => ⟨[], [(0, 9, 1)], 1⟩) (fun y => ps.length - y.1) (0, []) ⟨by simp, by simp, by simp, by simp, by simp⟩ _ (le_own 5 9 1 [] (.inr ⟨rfl, by simp⟩)) (leN_id (by simp)) ?_
  rintro ⟨k, out⟩ ⟨h1, h2, h3, h4, h5⟩
  simp only at h1 h2 h3 h4 h5
  by_cases ck : k < ps.length
  case neg =>
    obtain rfl : k = ps.length := by omega
    rw [List.take_length] at h2 h3
    have e : R = some out := by rw [hRe]; unfold namesF; rw [if_pos h3, h2]; rfl
    subst e
    simp [Tryd.results41]
  have hpl := hp ps[k] (List.getElem_mem ck)
  have hno : okP ps[k] = false → R = none := fun h => by
    rw [hRe]; unfold namesF
    rw [if_neg]; rfl
    intro hc
    have := List.all_eq_true.1 hc ps[k] (List.getElem_mem ck)
    rw [h] at this; cases this
  simp [ck]
  by_cases c1 : ps[k] = [42]
  · have d : (ps[k] == [42]) = true := by simpa using c1
    have e := hno (by unfold okP; rw [d]; rfl)
    subst e
    simp [d, Tryd.results41]
  have d : (ps[k] == [42]) = false := by simpa using c1
  simp [d, ck]
  refine pcall_of (rtoken31 tchar70 ps[k] (by omega)) (by simp) ?_
  cases c2 : tkB ps[k] with
  | false =>
    have e := hno (by unfold okP; rw [c2]; simp)
    subst e
    simp [Tryd.results41]
  | true =>
  simp [ck]
  refine pcall_of (rlower32 ps[k] hpl) (by simp) ?_
  simp
  have hsl : (lowB ps[k]).length ≤ 1000000 := by rw [lowB_len]; exact hpl
  have hstep : ((ps.take (k + 1)).map lowB).foldl insU [] = insU out (lowB ps[k]) := by
    rw [List.take_succ_eq_append_getElem ck, List.map_append, List.foldl_append, ← h2]; rfl
  have hall : (ps.take (k + 1)).all okP = true := by
    rw [List.take_succ_eq_append_getElem ck, List.all_append, h3]
    simp only [List.all_cons, List.all_nil, Bool.and_true, Bool.true_and]
    unfold okP; rw [c2]; simpa using c1
  generalize lowB ps[k] = s at *
  refine aw_loop (fun j : Nat => j ≤ out.length ∧ ∀ x ∈ out.take j, x < s) (fun j => [(4, .p (.sl (ps.map PC.str))), (5, .own 0 (out.map PC.str)), (6, .p (.int k)), (7, .p (.str s)), (8, .p (.int j))])
    (fun j => ⟨[], [(0, 9, 1)], 1⟩) (fun j => out.length - j) 0 (by simp) _ (AS.le_refl _ _) (leN_id (by simp)) ?_
  rintro j ⟨g1, g2⟩
  by_cases cj : j < out.length
  · have hjl := h5 out[j] (List.getElem_mem cj)
    have hls := less79 out[j] s (by omega) (by omega)
    simp [cj]
    refine pcall_of hls (by simp) ?_
    by_cases c3 : out[j] < s
    · simp [c3]
      refine ⟨j + 1, ⟨by omega, ?_⟩, by omega, leN_id ?_⟩
      · intro x hx
        rw [List.take_succ_eq_append_getElem cj] at hx
        rcases List.mem_append.1 hx with hx | hx
        · exact g2 x hx
        · simp at hx; subst hx; exact c3
      · simp [wrap64_id (n := (j : Int) + 1) (by omega) (by omega)]
    · have hat : atU out s = j := atU_eq g1 g2 (fun _ => c3)
      have d3 : decide (out[j] < s) = false := by simpa using c3
      by_cases c4 : out[j] = s
      · have d4 : (out[j] == s) = true := by simpa using c4
        have hi : insU out s = out := by unfold insU; rw [hat, List.getElem?_eq_getElem cj, c4, if_pos rfl]
        simp [d3, cj, d4]
        refine ⟨k + 1, out, ⟨by omega, by rw [← List.map_take, hstep, hi], List.all_eq_true.1 hall, by omega, h5⟩, by omega, leN_id ?_⟩
        simp [wrap64_id (n := (k : Int) + 1) (by omega) (by omega)]
      · have d4 : (out[j] == s) = false := by simpa using c4
        have hi : insU out s = out.take j ++ s :: out.drop j := by
          unfold insU; rw [hat, List.getElem?_eq_getElem cj, if_neg (by simpa using c4)]
        simp [d3, cj, d4]
        refine ⟨by omega, fun y hy => str_width y (List.mem_of_mem_take hy), by omega, by omega, fun y hy => str_width y (List.mem_of_mem_take hy), by omega, by omega, by omega, ?_, fun y hy => str_width y (List.mem_of_mem_drop hy), by omega, by omega, k + 1, insU out s, ⟨by omega, by rw [← List.map_take, hstep], List.all_eq_true.1 hall, ?_, ?_⟩, by omega, leN_of [(0, 3)] ?_⟩
        · rintro x (hx | rfl)
          · exact str_width x (List.mem_of_mem_take hx)
          · rfl
        · have := insU_len out s; omega
        · intro x hx
          rcases insU_mem hx with rfl | hx
          · exact hsl
          · exact h5 x hx
        · simp [wrap64_id (n := (k : Int) + 1) (by omega) (by omega), hi]
  · obtain rfl : j = out.length := by omega
    have hat : atU out s = out.length := atU_eq g1 g2 (fun h => absurd h (by omega))
    have hi : insU out s = out.take out.length ++ s :: out.drop out.length := by
      unfold insU; rw [hat, List.getElem?_eq_none (Nat.le_refl _), if_neg (by simp)]
    simp
    refine ⟨fun y hy => str_width y (List.mem_of_mem_take hy), by omega, by omega, fun y hy => str_width y (List.mem_of_mem_take hy), by omega, by omega, ?_, fun y hy => str_width y (List.mem_of_mem_drop hy), by omega, by omega, k + 1, insU out s, ⟨by omega, by rw [← List.map_take, hstep], List.all_eq_true.1 hall, ?_, ?_⟩, by omega, leN_of [(0, 3)] ?_⟩
    · rintro x (hx | rfl)
      · exact str_width x (List.mem_of_mem_take hx)
      · rfl
    · have := insU_len out s; omega
    · intro x hx
      rcases insU_mem hx with rfl | hx
      · exact hsl
      · exact h5 x hx
    · have e1 : (out.map PC.str).take out.length = out.map PC.str := List.take_of_length_le (by simp)
      have e2 : (out.map PC.str).drop out.length = [] := List.drop_of_length_le (by simp)
      simp [wrap64_id (n := (k : Int) + 1) (by omega) (by omega), hi, e1, e2]
end Go.Av
