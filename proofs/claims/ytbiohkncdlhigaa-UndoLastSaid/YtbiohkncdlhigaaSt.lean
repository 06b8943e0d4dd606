/-
  Strings, bytes, copies, functions with captured variables, results in blocks: more steps. Conditions: as each lemma names them.
-/
import Derived.Test.YtbiohkncdlhigaaAb
import Derived.Laws.Strings2
import Derived.Laws.Strings3
import Derived.Laws.Concat
import Derived.Laws.BytesArg
import Derived.Laws.StructEq
namespace Go.Proofs.Ytbiohkncdlhigaa
open Go Go.RowKit

abbrev str (s : List UInt8) : Value := .string ⟨s.toArray⟩
abbrev byteV (b : UInt8) : Value := .int .u8 (b.toNat : Int)
theorem ext_take (s : List UInt8) (hi : Nat) : (⟨s.toArray⟩ : ByteArray).extract 0 hi = ⟨(s.take hi).toArray⟩ := by
  apply ByteArray.ext; simp
theorem ext_drop (s : List UInt8) (lo : Nat) : (⟨s.toArray⟩ : ByteArray).extract lo s.length = ⟨(s.drop lo).toArray⟩ := by
  apply ByteArray.ext; simp; exact List.take_of_length_le (by simp)
theorem ext_mid (s : List UInt8) (lo hi : Nat) : (⟨s.toArray⟩ : ByteArray).extract lo hi = ⟨((s.take hi).drop lo).toArray⟩ := by
  apply ByteArray.ext; simp [List.drop_take]
theorem str_size (s : List UInt8) : (⟨s.toArray⟩ : ByteArray).size = s.length := by simp [ByteArray.size]

section
variable {P : Program} {E : Ent} {Hs : List Snap} {O O' : List Own} {l : Env}
theorem QF.lenS {x : Operand} {s : List UInt8} {T : TypeId} [t : TDesc P T .string] (hx : opv l x = some (str s)) : QF P l (.call ⟨.builtin .len, #[x], #[T]⟩) (.int .i64 (s.length : Int)) := by
  intro o' ho ρ hρ w
  simp [execOp, ho, resolve, invoke, builtin, hρ _ _ hx, run_len_string _ _ _ _ t.h, goInt, str_size]
theorem QF.indexS {T : TypeId} {x ix : Operand} {s : List UInt8} {kd : IntKind} {j : Nat} {i : Int} {b : UInt8} [t : TDesc P T .string] (hx : opv l x = some (str s)) (hi : opv l ix = some (.int kd i)) (hj : i = (j : Int)) (hb : s[j]? = some b) : QF P l (.index T x ix) (byteV b) := by
  intro o' ho ρ hρ w
  subst hj
  obtain ⟨h1, h2⟩ := List.getElem?_eq_some_iff.1 hb
  have h3 : (0 : Int) ≤ (j : Int) ∧ (j : Int) < ((⟨s.toArray⟩ : ByteArray).size : Int) := by rw [str_size]; omega
  have h4 : (⟨s.toArray⟩ : ByteArray)[j]'(by rw [str_size]; exact h1) = b := by rw [← h2]; rfl
  simp only [execOp, ho, hρ _ _ hx, hρ _ _ hi, run_index_string _ _ _ _ _ t.h, Sem.run_bind]
  rw [dif_pos h3]
  simp [h4]
theorem QF.sliceSHi {T : TypeId} {x hx' : Operand} {s : List UInt8} {kd : IntKind} {hi : Nat} {i : Int} [t : TDesc P T .string] (hx : opv l x = some (str s)) (hy : opv l hx' = some (.int kd i)) (hi1 : i = (hi : Int)) (hle : hi ≤ s.length) : QF P l (.slice T x none (some hx') none) (str (s.take hi)) := by
  intro o' ho ρ hρ w
  subst hi1
  have h3 : (0 : Int) ≤ (hi : Int) ∧ (hi : Int) ≤ ((⟨s.toArray⟩ : ByteArray).size : Int) := by rw [str_size]; omega
  simp only [execOp, ho, Option.map_some, Option.map_none, hρ _ _ hx, hρ _ _ hy, Instr.sliceAt, Sem.run_bind, run_underlying t.h, Result.andThen_ok, run_slice_string_to_if _ _ _ _ _ t.h]
  rw [if_pos h3, Int.toNat_natCast, ext_take]
  rfl
theorem QF.sliceSLo {T : TypeId} {x lx : Operand} {s : List UInt8} {kd : IntKind} {lo : Nat} {i : Int} [t : TDesc P T .string] (hx : opv l x = some (str s)) (hy : opv l lx = some (.int kd i)) (hi1 : i = (lo : Int)) (hle : lo ≤ s.length) : QF P l (.slice T x (some lx) none none) (str (s.drop lo)) := by
  intro o' ho ρ hρ w
  subst hi1
  have h3 : (0 : Int) ≤ (lo : Int) ∧ (lo : Int) ≤ ((⟨s.toArray⟩ : ByteArray).size : Int) := by rw [str_size]; omega
  simp only [execOp, ho, Option.map_some, Option.map_none, hρ _ _ hx, hρ _ _ hy, Instr.sliceAt, Sem.run_bind, run_underlying t.h, Result.andThen_ok, run_slice_string_from_if _ _ _ _ _ t.h]
  rw [if_pos h3, Int.toNat_natCast, str_size, ext_drop]
  rfl
theorem QF.sliceSLH {T : TypeId} {x lx hx' : Operand} {s : List UInt8} {kd kd' : IntKind} {lo hi : Nat} {i i' : Int} [t : TDesc P T .string] (hx : opv l x = some (str s)) (hy : opv l lx = some (.int kd i)) (hz : opv l hx' = some (.int kd' i')) (hl1 : i = (lo : Int)) (hi1 : i' = (hi : Int)) (hle : lo ≤ hi) (hle2 : hi ≤ s.length) :
    QF P l (.slice T x (some lx) (some hx') none) (str ((s.take hi).drop lo)) := by
  intro o' ho ρ hρ w
  subst hl1; subst hi1
  simp only [execOp, ho, Option.map_some, Option.map_none, hρ _ _ hx, hρ _ _ hy, hρ _ _ hz, Instr.sliceAt, Sem.run_bind, run_underlying t.h, Result.andThen_ok]
  rw [run_slice_string w T _ kd kd' (lo : Int) (hi : Int) t.h (by omega) (by omega) (by rw [str_size]; omega), Int.toNat_natCast, Int.toNat_natCast, ext_mid]
  rfl
theorem QF.addS {T T' : TypeId} {x y : Operand} {a b : List UInt8} (hx : opv l x = some (str a)) (hy : opv l y = some (str b)) (ha : a.length ≤ 8388608) (hb : b.length ≤ 8388608) : QF P l (.binOp .add T x y T') (str (a ++ b)) := by
  intro o' ho ρ hρ w
  have ha' : (a.length : Int) ≤ 8388608 := by omega
  have hb' : (b.length : Int) ≤ 8388608 := by omega
  simp [execOp, ho, hρ _ _ hx, hρ _ _ hy, eqGuard_add, binOp_string_add, run_string_add_lists w a b ha' hb']
theorem QF.eqlS {T T' : TypeId} {x y : Operand} {a b : List UInt8} (hx : opv l x = some (str a)) (hy : opv l y = some (str b)) : QF P l (.binOp .eql T x y T') (.bool (decide (a = b))) := by
  intro o' ho ρ hρ w
  simp [execOp, ho, hρ _ _ hx, hρ _ _ hy, eqGuard_at_string, binOp_string_eql]
  rw [Bool.eq_iff_iff]; simp
theorem QF.neqS {T T' : TypeId} {x y : Operand} {a b : List UInt8} (hx : opv l x = some (str a)) (hy : opv l y = some (str b)) : QF P l (.binOp .neq T x y T') (.bool (decide (a ≠ b))) := by
  intro o' ho ρ hρ w
  simp [execOp, ho, hρ _ _ hx, hρ _ _ hy, eqGuard_at_string, binOp_string_neq]
  by_cases h : a = b <;> simp [h]
theorem QF.addU8 {T T' : TypeId} {x y : Operand} {a b : Int} (hx : opv l x = some (.int .u8 a)) (hy : opv l y = some (.int .u8 b)) (h : 0 ≤ a + b ∧ a + b ≤ 255) : QF P l (.binOp .add T x y T') (.int .u8 (a + b)) := by
  have := QF.add (P := P) (T := T) (T' := T') hx hy
  rwa [show IntKind.u8.wrap (a + b) = a + b by simp [IntKind.wrap, IntKind.bits, IntKind.signed]; omega] at this
theorem QF.subU8 {T T' : TypeId} {x y : Operand} {a b : Int} (hx : opv l x = some (.int .u8 a)) (hy : opv l y = some (.int .u8 b)) (h : 0 ≤ a - b ∧ a - b ≤ 255) : QF P l (.binOp .sub T x y T') (.int .u8 (a - b)) := by
  have := QF.sub (P := P) (T := T) (T' := T') hx hy
  rwa [show IntKind.u8.wrap (a - b) = a - b by simp [IntKind.wrap, IntKind.bits, IntKind.signed]; omega] at this
theorem QF.convU64 {s t : TypeId} {x : Operand} {k0 : IntKind} {a : Int} [i : TDesc P s (.int k0)] [j : TDesc P t (.int .u64)] (hx : opv l x = some (.int k0 a)) (h : 0 ≤ a ∧ a ≤ 9223372036854775807) : QF P l (.convert s t x) (.int .u64 a) := by
  have := QF.conv (P := P) (s := s) (t := t) (k := k0) (k' := .u64) hx
  rwa [show IntKind.u64.wrap a = a by simp [IntKind.wrap, IntKind.bits, IntKind.signed]; omega] at this
theorem QF.shr1 {T T' : TypeId} {x y : Operand} {a : Int} (hx : opv l x = some (.int .u64 a)) (hy : opv l y = some (.int .u64 1)) : QF P l (.binOp .shr T x y T') (.int .u64 (a / 2)) := by
  intro o ho ρ hρ w
  simp [execOp, ho, hρ _ _ hx, hρ _ _ hy, eqGuard_shr, binOp_shr, shift_shr .u64 .u64 a 1 (by decide) (by decide)]
theorem QF.makeFunc {fid : FuncId} {La : List Operand} {vs : List Value} (hx : opvL l La = some vs) : QF P l (.makeFunc (.func fid) #[] La.toArray) (.func (.func fid) #[] vs.toArray) := by
  intro o ho ρ hρ w
  have h5 := opvL_eq hρ La vs hx
  simp [execOp, ho, Instr.makeFunc, h5]
/-- 'string(bytes)' of a row of ours. -/
theorem QV.convBytes {s t e : TypeId} {x : Operand} {v : Value} {n : Nat} {xs : List Value} {ns : List Int} [i : TDesc P s (.slice e)] [i2 : TDesc P e (.int .u8)] [j : TDesc P t .string] (hx : opv l x = some v) [g : GetRow O v e 1 n xs] (hxs : xs = ns.map (.int .u8)) :
    QV P E Hs O l (.convert s t x) (str (ns.map fun n => UInt8.ofNat n.toNat)) := by
  intro o ho ρ hρ w hm
  have hown : w.ownsRow 0 e 1 v n xs := hm.own _ g.h
  have hlen := hown.1
  rw [Nat.mul_one] at hlen
  rcases hown.2 with ⟨rfl, h0⟩ | ⟨b, cap, cur, rfl, _⟩
  · subst h0
    have : ns = [] := by subst hxs; simpa using hlen
    subst this
    simp [execOp, ho, hρ _ _ hx, run_convert_bytes_nil w s e i.h i2.h 0 0 t j.h]
    rfl
  · have hcell : ∀ k, k < n → w.cell? ⟨b, 0 + k, none⟩ = some (.int .u8 (ns.getD k 0)) := by
      intro k hk
      have hk2 : xs[k]? = some (.int .u8 (ns.getD k 0)) := by
        subst hxs
        rw [List.length_map] at hlen
        have hk3 : k < ns.length := by omega
        simp [hk3]
      exact row_cell hown hk2
    have hl2 : ns.length = n := by subst hxs; simpa using hlen
    simp [execOp, ho, hρ _ _ hx, run_convert_bytes_arg w s e i.h i2.h b 0 n cap ns hl2 hcell t j.h, strOfNums]

theorem HV.copyR {T T2 e : TypeId} {x y : Operand} {v vs : Value} {sz n lo m : Nat} {xs xs' ds : List Value} [t : TDesc P T (.slice e)] [zs : TSz P e sz] (hx : opv l x = some (slv v sz lo n (capOf v))) (hy : opv l y = some vs) [g : GetRow O v e sz n xs] (h0 : 0 < n) (hlo : lo ≤ n) (hs : IsSl vs m) (hm : m ≤ n - lo)
    (hd : ds.length = m * sz) (hc : ∀ w, Mem E w Hs O → ∀ k u, ds[k]? = some u → w.cell? (vat vs k) = some u) (h1 : ∀ u ∈ ds, one1 u = true) (hp : putAll xs (lo * sz) ds = some xs') [q : PutRow O v e sz n xs v n xs' O'] :
    HV P E Hs O l (.call ⟨.builtin .copy, #[x, y], #[T, T2]⟩) (fun r Hs' O1 => Hs' = Hs ∧ O1 = O' ∧ r = .int .i64 (m : Int)) := by
  refine HV.of_exec fun o' ho w hmem ρ hρ => ?_
  have hown : w.ownsRow 0 e sz v n xs := hmem.own _ g.h
  obtain ⟨pre, post, rfl, rfl⟩ := q.h
  rcases hown.2 with ⟨_, h2⟩ | ⟨b, cap, cur, rfl, _, hh, hnc, hcap, hcs, htake⟩
  · omega
  have hcur : cur.toList = xs ++ cur.toList.drop (n * sz) := by rw [← htake]; exact (List.take_append_drop _ _).symm
  have hw : w.heap[b]? = some (.cells cur.toList.toArray e (0, 0)) := by simpa using hh
  have hp2 : putAll cur.toList (lo * sz) ds = some (xs' ++ cur.toList.drop (n * sz)) := by
    have h9 := putAll_append _ _ _ (cur.toList.drop (n * sz)) _ hp
    rw [← hcur] at h9; exact h9
  have hlen : xs'.length = xs.length := putAll_length _ _ _ _ hp
  have key : ∃ w', (Builtin.copy_ #[T, T2] o'.type #[slv (.slice (some ⟨b, 0, none⟩) n cap) sz lo n (capOf (.slice (some ⟨b, 0, none⟩) n cap)), vs]).run P w = .ok (goInt m) w' ∧ w'.heap[b]? = some (.cells (xs' ++ cur.toList.drop (n * sz)).toArray e (0, 0)) ∧ OneBlock w w' b := by
    obtain ⟨A, scap, rfl, hlc, hcm, hA⟩ := hs
    have hmin : Nat.min m (n - lo) = m := Nat.min_eq_left hm
    have hl0 : ∀ a, (loadCells a 0).run P w = .ok #[] w := fun a => run_loadCells_list w a [] (by simp)
    by_cases hm0 : m = 0
    · subst hm0
      have hds : ds = [] := List.eq_nil_of_length_eq_zero (by simpa using hd)
      subst hds
      simp only [putAll, Option.some.injEq] at hp2
      refine ⟨w, ?_, by rw [← hp2]; exact hw, rfl, rfl, rfl, rfl, fun _ _ => rfl⟩
      simp only [slv, capOf]
      by_cases hc2 : cap = lo
      · cases A <;> simp [hc2, Builtin.copy_, run_underlying t.h, Builtin.lenOf, Builtin.firstCells, zs.h, hl0, storeCells]
      · cases A <;> simp [hc2, Builtin.copy_, run_underlying t.h, Builtin.lenOf, Builtin.firstCells, zs.h, hl0, storeCells]
    · obtain ⟨b2, off, rfl⟩ := hA (by omega)
      have hne : ¬ cap = lo := by omega
      have hl : (loadCells ⟨b2, off, none⟩ (m * sz)).run P w = .ok ds.toArray w := by
        rw [← hd]
        exact run_loadCells_list w _ ds (fun j u hj => by
          rw [Addr.add_lit]; exact hc w hmem j u hj)
      obtain ⟨w', hr, h2, h3⟩ := run_storeCells (P := P) ds w cur.toList _ (lo * sz) 0 hw (by simpa using hp2) h1
      refine ⟨w', ?_, h2, h3⟩
      simp only [slv, capOf, hne, if_false, Option.map_some, Addr.add_lit, Nat.zero_add]
      simp [Builtin.copy_, run_underlying t.h, Builtin.lenOf, Builtin.firstCells, zs.h, hmin, hl, hr]
  obtain ⟨w', hr, h2, h3⟩ := key
  have hy' : Own.holds w' (.row e sz (.slice (some ⟨b, 0, none⟩) n cap) n xs') := by
    refine ⟨by rw [hlen, hown.1], .inr ⟨b, cap, _, rfl, Nat.zero_le _, h2, hnc, hcap, ?_, ?_⟩⟩
    · have h8 := congrArg List.length hcur
      simp only [List.length_append] at h8
      simp only [List.size_toArray, List.length_append, hlen]
      rw [← h8]; simpa using hcs
    · simp only
      rw [List.take_append_of_le_length (by rw [hlen, hown.1]; exact Nat.le_refl _), List.take_of_length_le (by rw [hlen, hown.1]; exact Nat.le_refl _)]
  refine ⟨.int .i64 (m : Int), w', Hs, _, ⟨rfl, rfl, rfl⟩, hmem.changeAt (y := .row e sz (.slice (some ⟨b, 0, none⟩) n cap) n xs') h3.os h3.tape h3.output (by rw [h3.size]; exact Nat.le_refl _) (fun k _ hk => h3.block k (fun e => hk (by rw [e]; rfl))) hy' (fun k hk => .inl hk), .inl ?_⟩
  simp [execOp, ho, resolve, invoke, builtin, hρ _ _ hx, hρ _ _ hy, hr, goInt]
end

section
variable {P : Program} {f : FuncId} {n : Nat} {E : Ent} {R : Value → World → Prop} {k : List Item} {Hs : List Snap} {O : List Own} {l : Env} {L : List Oper} {os : List Oper} {d : Nat} {ty : TypeId} {pos : String} {aft : Array Edge} {g : Option (Nat × Bool)}
  {Hs0 : List Snap} {O0 : List Own} {lt : List Nat} {st : Bool} {fuel : Nat} {listed : Array Bool}
theorem slv_self {v : Value} {sz n : Nat} (h : IsSl v n) : slv v sz 0 n (capOf v) = v := by
  obtain ⟨A, cap, rfl, _, _, hA⟩ := h
  simp only [slv, capOf, Nat.sub_zero]
  by_cases hc : cap = 0
  · simp [hc]
  · simp only [hc, if_false, Nat.zero_mul]
    cases A with
    | none => rfl
    | some a =>
      simp [Addr.add]
/-- copy of what a snapshot holds into a row of ours. -/
theorem RW.copyH {α : Type} {A : Lay α} {H : Snap} {ys : List α} {T T2 e : TypeId} {x y : Operand} {v vs : Value} {sz m lo : Nat} {xs : List Value} (lo' : Nat) [t : TDesc P T (.slice e)] [zs : TSz P e sz] (hx : opv l x = some (slv v sz lo m (capOf v))) (hy : opv l y = some vs) [g1 : GetRow O v e sz m xs] (hr : SliceRep H A vs ys) [i : InH Hs H] (hsz : A.sz = sz)
    (h0 : 0 < m) (hlo : lo ≤ m) (hm : ys.length ≤ m - lo) {xs' : List Value → List Value} (hp : ∀ ds, ds.length = ys.length * sz → putAll xs (lo * sz) ds = some (xs' ds)) {O1 : List Value → List Own} (q : ∀ ds, PutRow O v e sz m xs v m (xs' ds) (O1 ds)) (_hl : lo = lo') (hg : guardIs L l g = some true) (hd : Nat.blt d n = true)
    (h : ∀ ds, CellsRep H A ys ds → RW P f n E R L.toArray os k Hs (O1 ds) ((d, .int .i64 (ys.length : Int)) :: l)) : RW P f n E R L.toArray (⟨some d, .call ⟨.builtin .copy, #[x, y], #[T, T2]⟩, ty, pos, aft, g⟩ :: os) k Hs O l := by
  obtain ⟨hs, ds, hc, hcell⟩ := hr
  have hdl : ds.length = ys.length * sz := by rw [hc.length, hsz]
  exact RW.h (HV.copyR (q := q ds) hx hy h0 hlo hs hm hdl (fun w hm k u hu => hm.cellH (hcell k u hu)) hc.one1 (hp ds hdl)) hg hd (by rintro v' Hs' O' ⟨rfl, rfl, rfl⟩; exact h ds hc)
/-- A call through a function value that may read what is ours and leaves it as it is. -/
theorem RW.callK {fx : Operand} {La : List Operand} {ts : Array TypeId} {fid : FuncId} {cap vals : List Value} {H : Snap} {O1 F : List Own} {post : Snap → Value → Prop} (hf : opv l fx = some (.func (.func fid) #[] cap.toArray)) (ha : opvL l La = some vals) [c : TCall P fid] (hc : Ctr P fid (vals ++ cap).toArray H O1 (fun H' O' v => O' = O1 ∧ post H' v)) [hH : InH Hs H] [hO : SplitO O O1 F] (hg : guardIs L l g = some true) (hd : Nat.blt d n = true)
    (h : ∀ v H', post H' v → RW P f n E R L.toArray os k Hs O ((d, v) :: l)) : RW P f n E R L.toArray (⟨some d, .call ⟨.value fx, La.toArray, ts⟩, ty, pos, aft, g⟩ :: os) k Hs O l :=
  RW.h (HV.callF hf ha hc hO.h) hg hd (by
    rintro v Hs' O' ⟨H', O2, ⟨rfl, h1⟩, h2, rfl, rfl⟩
    exact fun w hm => h v H' h1 w ((hm.perm hO.h.symm).sub (fun x hx => List.mem_cons_of_mem _ (List.mem_cons_of_mem _ hx)) (List.Sublist.refl _)))
theorem DW.callK (i : Nat) {fx : Operand} {La : List Operand} {ts : Array TypeId} {fid : FuncId} {cap vals : List Value} {H : Snap} {O1 F : List Own} {post : Snap → Value → Prop} (hi : opAt L i = some ⟨some d, .call ⟨.value fx, La.toArray, ts⟩, ty, pos, aft, g⟩) (hrd : (Region.ready .any L.toArray listed == [i]) = true) (hf : opv l fx = some (.func (.func fid) #[] cap.toArray)) (ha : opvL l La = some vals) [c : TCall P fid]
    (hc : Ctr P fid (vals ++ cap).toArray H O1 (fun H' O' v => O' = O1 ∧ post H' v)) [hH : InH Hs H] [hO : SplitO O O1 F] (hg : guardIs L l g = some true) (hd : Nat.blt d n = true)
    (h : ∀ v H', post H' v → DW P f n E R L Hs0 O0 lt true fuel (listed.setIfInBounds i true) k Hs O ((d, v) :: l)) : DW P f n E R L Hs0 O0 lt true (fuel + 1) listed k Hs O l := by
  intro hsub
  refine DW.h i true hi hrd (HV.callF hf ha hc hO.h) hg hd (by simp) ?_ hsub
  rintro v Hs' O' ⟨H', O2, ⟨rfl, h1⟩, h2, rfl, rfl⟩
  have hs2 : ∀ w, Mem E w (H' :: Hs) (O2 ++ F) → Mem E w Hs O := fun w hm => (hm.perm hO.h.symm).sub (fun x hx => List.mem_cons_of_mem _ (List.mem_cons_of_mem _ hx)) (List.Sublist.refl _)
  exact ⟨fun _ w hm => hsub rfl w (hs2 w hm), fun _ w hm => h v H' h1 hsub w (hs2 w hm)⟩
theorem RW.joinF {α : Type} {ops : Array Oper} (I : α → Prop) (sH : α → List Snap) (sO : α → List Own) (sl : α → Env) (h1 : (∀ s, I s → Runs P f n E R k (sH s) (sO s) (sl s)) → RW P f n E R ops os k Hs O l) (h2 : ∀ s, I s → Runs P f n E R k (sH s) (sO s) (sl s)) : RW P f n E R ops os k Hs O l := h1 h2
theorem Runs.joinF {α : Type} {c : Item} (I : α → Prop) (sH : α → List Snap) (sO : α → List Own) (sl : α → Env) (h1 : (∀ s, I s → Runs P f n E R k (sH s) (sO s) (sl s)) → Runs P f n E R (c :: k) Hs O l) (h2 : ∀ s, I s → Runs P f n E R k (sH s) (sO s) (sl s)) : Runs P f n E R (c :: k) Hs O l := h1 h2
theorem Runs.weakH {Hs' : List Snap} (h : Runs P f n E R k Hs' O l) (hH : ∀ x ∈ Hs', x ∈ E.H0 :: Hs) : Runs P f n E R k Hs O l := fun w hm a ha => h w (hm.sub hH (List.Sublist.refl _)) a ha
/-- A block of ours goes into a snapshot. -/
theorem Mem.freezeBlk {w : World} {O' : List Own} {H : Snap} {b : Nat} {T : TypeId} {cs : List Value} [q : DelBlk O b T cs O'] [i : InH Hs H] (hM : E.M = []) (hm : Mem E w Hs O) :
    ∃ H', H.le H' ∧ (∀ j u, cs[j]? = some u → H'.cell ⟨b, j, none⟩ = some u) ∧ Mem E w (H' :: Hs) O' := by
  have hm2 := hm.perm q.h
  have hw : w.heap[b]? = some (.cells cs.toArray T (0, 0)) := hm2.own _ (List.mem_cons_self ..)
  obtain ⟨h1, h2⟩ := hm2.freeze (List.mem_cons_of_mem _ i.h) (b := b) rfl hw (by rw [hM]; simp)
  refine ⟨_, h2, fun j u hu => ?_, h1⟩
  simp [Snap.cell, Snap.join]
  simpa using hu
theorem Runs.freezeBlk {O' : List Own} {H : Snap} (b : Nat) {T : TypeId} {cs : List Value} [q : DelBlk O b T cs O'] [i : InH Hs H] (hM : E.M = [])
    (h : ∀ H', H.le H' → (∀ j u, cs[j]? = some u → H'.cell ⟨b, j, none⟩ = some u) → Runs P f n E R k (H' :: Hs) O' l) : Runs P f n E R k Hs O l := by
  intro w hm
  obtain ⟨H', h1, h2, h3⟩ := hm.freezeBlk (q := q) (i := i) hM
  exact h H' h1 h2 w h3
/-- From here on, what lies in H' is what was there at the start. -/
theorem Runs.rebase (H' : Snap) (hle : E.H0.le H') [i : InH Hs H'] (h : ∀ E' : Ent, E'.M = E.M → E'.H0 = H' → (∀ w' Hs' O', Mem E' w' Hs' O' → Mem E w' (H' :: Hs') O') → Runs P f n E' R k Hs O l) : Runs P f n E R k Hs O l := by
  intro w hm
  have hH : H' ∈ E.H0 :: Hs := List.mem_cons_of_mem _ i.h
  have hd := hm.dom H' hH
  refine h ⟨E.w0, E.M, H'⟩ rfl rfl (fun w' Hs' O' h' => ?_) w ?_
  · refine ⟨h'.fr, h'.own, h'.new, h'.dis, ?_, ?_, ?_⟩
    · intro G hG
      rcases List.mem_cons.1 hG with rfl | hG
      · exact fun b o hb => h'.agr H' (List.mem_cons_self ..) b o (hle b o hb)
      · exact h'.agr G hG
    · intro G hG b o hb
      rcases List.mem_cons.1 hG with rfl | hG
      · exact .inl hb
      · rcases h'.dom G hG b o hb with h2 | h2
        · exact hd b o h2
        · exact .inr h2
    · intro G hG x hx b o hb
      rcases List.mem_cons.1 hG with rfl | hG
      · exact h'.apart H' (List.mem_cons_self ..) x hx b o (hle b o hb)
      · exact h'.apart G hG x hx b o hb
  · have hsub : ∀ G ∈ H' :: Hs, G ∈ E.H0 :: Hs := fun G hG => by
      rcases List.mem_cons.1 hG with rfl | hG
      · exact hH
      · exact List.mem_cons_of_mem _ hG
    refine ⟨hm.fr, hm.own, hm.new, hm.dis, fun G hG => hm.agr G (hsub G hG), fun G hG b o hb => ?_, fun G hG => hm.apart G (hsub G hG)⟩
    rcases hm.dom G (hsub G hG) b o hb with h2 | h2
    · exact .inl (hle b o h2)
    · exact .inr h2
/-- A block of ours that nobody writes any more: from here on it counts as what was there at the start. -/
theorem Runs.freezeBase {O' : List Own} (b : Nat) {T : TypeId} {cs : List Value} [q : DelBlk O b T cs O'] (hM : E.M = []) (h : ∀ E' : Ent, E'.M = [] → (∀ j u, cs[j]? = some u → E'.H0.cell ⟨b, j, none⟩ = some u) → (∀ w' Hs' O', Mem E' w' Hs' O' → Mem E w' Hs' O') → Runs P f n E' R k Hs O' l) : Runs P f n E R k Hs O l := by
  intro w hm
  have hm2 := hm.perm q.h
  have hw : w.heap[b]? = some (.cells cs.toArray T (0, 0)) := hm2.own _ (List.mem_cons_self ..)
  obtain ⟨h1, h2⟩ := hm2.freeze (List.mem_cons_self ..) (b := b) rfl hw (by rw [hM]; simp)
  have i : InH (E.H0.join b (.cells cs.toArray T (0, 0)) :: Hs) (E.H0.join b (.cells cs.toArray T (0, 0))) := ⟨List.mem_cons_self ..⟩
  refine Runs.rebase (i := i) (E.H0.join b (.cells cs.toArray T (0, 0))) h2 (fun E' hM' hE hback => ?_) w h1
  refine (h E' (hM'.trans hM) (fun j u hu => ?_) (fun w' Hs' O' hm' => (hback w' Hs' O' hm').sub (fun x hx => List.mem_cons_of_mem _ (List.mem_cons_of_mem _ hx)) (List.Sublist.refl _))).weakH (fun x hx => List.mem_cons_of_mem _ (List.mem_cons_of_mem _ hx))
  rw [hE]
  simp [Snap.cell, Snap.join]
  simpa using hu
theorem QE.load {T : TypeId} {x : Operand} {a : Addr} {u : Value} [i : TAgg P T false] (hx : opv l x = some (.pointer (some a))) (hc : E.H0.cell a = some u) : QE P E l (.load T x) u := by
  intro o ho ρ hρ w hw
  have h1 : w.cell? a = some u := hw.cell hc
  simp [execOp, ho, hρ _ _ hx, Instr.loadAt, Instr.sureAddr, run_loadVar_one (P := P) (T := T) h1]
/-- The first result lies in a block, the second one in a slot. -/
theorem Runs.retCT {fn : Func} {t t2 b : Nat} {T T' : TypeId} {cs : List Value} {v2 : Value} [i : TAgg P T true] (hf : P.funcs[f]? = some fn) (hr : fn.results = #[.cell t T, .tmp t2]) (hv : efind l t = some (.pointer (some ⟨b, 0, none⟩))) (hv2 : efind l t2 = some v2) [q : GetBlk O b T' cs] [s : TSz P T cs.length] (hR : ∀ w, Mem E w Hs O → R (.tuple #[.agg cs.toArray, v2]) w) :
    Runs P f n E R (.code .ret :: k) Hs O l :=
  Runs.ret hf (v := .tuple #[.agg cs.toArray, v2]) (fun w a hm ha => by
    have h1 : (loadVar T ⟨b, 0, none⟩).run P w = .ok (.agg cs.toArray) w := run_loadVar_agg (fun j u hj => by
      have h2 := hm.cellB (i := q) hj
      by_cases h0 : j = 0
      · subst h0; simpa [Addr.add] using h2
      · simpa [Addr.add, h0] using h2)
    simp [results, hr, ha.get t _ hv, ha.get t2 _ hv2, asAddr, h1]) hR
end
end Go.Proofs.Ytbiohkncdlhigaa
