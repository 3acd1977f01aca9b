/- Part of the proofs: the verified interpreter for the program's functions, or lemmas on what they compute; no condition. -/
import Derived.Test.YtoocidelbmbgcaaOctetSealsBiOps8
import Derived.Laws.BytesString
import Derived.Laws.AppendOwn
import Derived.Lib.ConvBytes
namespace Go.Ai
variable {N : Lim} {S I0 I I' : Nat → Prop} {w0 w w' : World} {γ γ' : Nat → Hdr} {σ σ' : St} {a : Act} {Γ : Ctx} {o : Oper} {e : Eff} {P : Program} {β : Type} {r : β}

/-! ### Conversions -/
theorem Ext.drew (w : World) : Ext w w.drew := ⟨rfl, rfl, rfl, Nat.le_refl _, fun _ _ => rfl⟩
theorem byteOf?_int {x : AV} {b : UInt8} (h : byteOf? x = some b) : ∃ n : Int, x = .int .u8 n ∧ b = UInt8.ofNat n.toNat := by
  unfold byteOf? at h
  split at h
  · injection h with h; exact ⟨_, rfl, h.symm⟩
  · cases h
theorem bytes_ints : ∀ (xs : List AV) (l : List UInt8), xs.mapM byteOf? = some l → ∃ ns : List Int, xs = ns.map (AV.int .u8) ∧ l = ns.map fun n => UInt8.ofNat n.toNat
  | [], l, h => by simp at h; subst h; exact ⟨[], rfl, rfl⟩
  | x :: xs, l, h => by
    simp only [List.mapM_cons, Option.bind_eq_bind, Option.bind_eq_some_iff] at h
    obtain ⟨b, h1, l', h2, h3⟩ := h
    simp at h3; subst h3
    obtain ⟨n, rfl, rfl⟩ := byteOf?_int h1
    obtain ⟨ns, rfl, rfl⟩ := bytes_ints xs l' h2
    exact ⟨n :: ns, rfl, rfl⟩
theorem foldl_push (ns : List Int) : ∀ s : ByteArray, ns.foldl (fun r n => r.push (UInt8.ofNat n.toNat)) s = ⟨(s.data.toList ++ ns.map fun n => UInt8.ofNat n.toNat).toArray⟩ := by
  induction ns with
  | nil => intro s; cases s; simp
  | cons n ns ih =>
    intro s
    rw [List.foldl_cons, ih]
    cases s
    simp [ByteArray.push]

theorem strAVs_holds (s : ByteArray) (ex : Array Value) : Holds w I (s.data.map (fun b => Value.int .u8 b.toNat) ++ ex) 1 (strAVs s) := by
  intro j x hx
  simp only [strAVs, List.getElem?_map, Array.getElem?_toList] at hx
  cases hb : s.data[j]? with
  | none => rw [hb] at hx; cases hx
  | some b =>
    rw [hb] at hx
    simp only [Option.map_some, Option.some.injEq] at hx
    subst hx
    have hlt := (Array.getElem?_eq_some_iff.1 hb).1
    refine ⟨_, rfl, rfl, fun p c hp => ?_⟩
    cases p with
    | zero =>
      simp only [Value.cells] at hp
      rw [Nat.mul_one, Nat.add_zero, Array.getElem?_append_left (by simpa using hlt)]
      simp only [Array.getElem?_map, hb, Option.map_some]
      simpa using hp
    | succ p => simp [Value.cells] at hp

theorem op_convert (hΓ : CtxOk Γ) (hs : Sim N S I0 w0 γ I σ a w) (hy : Young σ) (hd : ∀ t, o.dst = some t → N.ok t) {src dst : TypeId} {x : Operand} (ho : o.op = .convert src dst x) (h : opK Γ o σ some = some e) :
    Goes Γ.P N S I0 w0 (σ.eff o.dst e) o a w := by
  have hv := RV_opd hs x
  simp only [opK, ho] at h
  obtain ⟨si, hsi, h⟩ := tyK_some h
  obtain ⟨di, hdi, h⟩ := tyK_some h
  have hsrc := hΓ.ty src si hsi
  have hdst := hΓ.ty dst di hdi
  obtain ⟨sd, hsd⟩ : ∃ sd, Γ.P.underlying src = some sd := by
    have := hsrc.tk
    cases hk : si.tk <;> rw [hk] at this <;> simp only [tkIs] at this
    case struct => obtain ⟨_, h, _⟩ := this; exact ⟨_, h⟩
    case tuple => obtain ⟨_, h⟩ := this; exact ⟨_, h⟩
    all_goals exact ⟨_, this⟩
  split at h
  · rename_i k k' n hk hq
    rw [hq] at hv
    have hv := RV_int hv
    injection h with h; subst h
    have hd2 : Γ.P.underlying dst = some (.int k) := by have := hdst.tk; rwa [hk] at this
    refine goes_value (u := .int k (k.wrap n)) (w' := w) ?_ (data_ok hs hy hd (show Value.int k (k.wrap n) = .int k (Γ.ar.wrap k n) by rw [hΓ.ar]; rfl))
    simp only [execOp, ho]
    refine exec_value ?_
    cases sd <;> simp [convert, run_underlying hsd, run_underlying hd2, hv, Conv.intToInt]
  · rename_i s hk hq
    rw [hq] at hv
    have hv := RV_str hv
    injection h with h; subst h
    have hd2 := hdst.str hk
    refine goes_value (u := .string s) (w' := w) ?_ (data_ok hs hy hd rfl)
    simp only [execOp, ho]
    refine exec_value ?_
    cases sd <;> simp [convert, run_underlying hsd, run_underlying hd2, hv]
  · rename_i el s hk hq
    rw [hq] at hv
    have hv := RV_str hv
    obtain ⟨d, hdd, h⟩ := dstK_some h
    obtain ⟨ei, hte, h⟩ := tyK_some h
    split at h
    case h_2 => cases h
    rename_i hek
    obtain ⟨hsz, h⟩ := cond_some h
    injection h with h; subst h
    have hd2 := hdst.slice hk
    have he2 : Γ.P.underlying el = some (.int .u8) := by have := (hΓ.ty el ei hte).tk; rwa [hek] at this
    have hcap : s.size ≤ grownCap w s.size 0 el := grownCap_ge w s.size 0 el
    have harr : (Lib.bytesCells w el s).size = grownCap w s.size 0 el := by
      simp only [Lib.bytesCells, Array.size_append, Array.size_map, Array.size_replicate]
      show s.size + _ = _
      omega
    have hblk := Lib.bytesWorld_at_new w el s
    have hext : Ext w (Lib.bytesWorld w el s) := ⟨by unfold Lib.bytesWorld World.freeze; split <;> rfl, by unfold Lib.bytesWorld World.freeze; split <;> rfl, by unfold Lib.bytesWorld World.freeze; split <;> rfl, by rw [Lib.bytesWorld_size]; omega, fun k hk => Lib.bytesWorld_at_old w el s k hk⟩
    have hlen : (strAVs s).length = s.size := by simp only [strAVs, List.length_map, Array.length_toList]; rfl
    refine goes_value (u := .slice (some ⟨w.heap.size, 0, none⟩) s.size (grownCap w s.size 0 el)) (w' := Lib.bytesWorld w el s) ?_
      (ok_new (rs := []) (h' := some (w.heap.size, 0, grownCap w s.size 0 el)) hs hy (fun q hq => by cases hq) (by simp) hd (R := ⟨σ.next d, el, 1, false, .live, strAVs s⟩) rfl rfl hext (fun b of cap he => by injection he with he; injection he with e1 _; omega)
        rfl (fun _ _ => ⟨by rw [hlen]; exact hcap, RowOk.mkRow rfl ((RIs_iff _ _ _ _).2 fun j x hx => ?_), ⟨_, el, _, _, hblk, by rw [harr]; simp, fun j hj => by omega⟩, fun h => by cases h⟩) (fun L => RV_newRef (R := ⟨σ.next d, el, 1, false, .live, strAVs s⟩) hlen.symm hcap) (fun q v hq => ⟨hq.1.symm, hq.2.symm⟩))
    · simp only [execOp, ho]
      refine exec_value ?_
      rw [hv]
      exact Lib.run_convert_string_bytes w src dst el s hsd hd2 he2
    · obtain ⟨u, h1, h2, h3⟩ := strAVs_holds (w := Lib.bytesWorld w el s) (I := Ix γ I []) s (Array.replicate (grownCap w s.size 0 el - s.size) (.int .u8 0)) j x hx
      refine ⟨u, h1, h2, fun p c hp => ?_⟩
      rw [Nat.zero_add, cell_eq hblk]
      exact h3 p c hp
  · split at h
    case h_2 => cases h
    rename_i el hek
    obtain ⟨ei, hte, h⟩ := tyK_some h
    split at h
    case h_2 => cases h
    rename_i hei
    obtain ⟨y, rs, h, hyx, hst, hdat⟩ := dataK_some hs hv h
    obtain ⟨xs, hxs, h⟩ := fitS_some h
    unfold bytesK at h
    split at h
    case h_2 => cases h
    rename_i l hl
    injection h with h; subst h
    obtain ⟨ns, rfl, rfl⟩ := bytes_ints xs l hl
    have hd2 := hdst.str (by assumption)
    have hs2 := hsrc.slice hek
    have he2 : Γ.P.underlying el = some (.int .u8) := by have := (hΓ.ty el ei hte).tk; rwa [hei] at this
    refine goes_value (u := .string ⟨(ns.map fun n : Int => UInt8.ofNat n.toNat).toArray⟩) (w' := w) ?_ (data_ok hs hy hd (x := .str _) (u := .string _) rfl)
    simp only [execOp, ho]
    refine exec_value ?_
    rcases hxs with rfl | ⟨rfl, hnil⟩
    · obtain ⟨ad, cap, hu, hle, hrow⟩ := hyx
      rw [hu, run_convert_bytes_string w src dst el ad _ cap hs2 he2 hd2]
      rcases hrow with hnil | ⟨b, of, rfl, hb, hrow⟩
      · have : ns = [] := by simpa using hnil
        subst this
        cases ad with
        | none => simp [Conv.bytesToString]; rfl
        | some ad =>
          have := run_bytesToString (P := Γ.P) w ad 0 cap [] (by simp [loadCells, loadCellsFrom])
          rw [List.map_nil] at *
          exact this
      · have hld : (loadCells ⟨b, of, none⟩ (ns.map (AV.int .u8)).length).run Γ.P w = .ok (ns.map (Value.int .u8)).toArray w := by
          have := run_loadCells_list (P := Γ.P) w ⟨b, of, none⟩ (ns.map (Value.int .u8)) (fun j v hj => by
            simp only [List.getElem?_map] at hj
            cases hn : ns[j]? with
            | none => rw [hn] at hj; cases hj
            | some n =>
              rw [hn] at hj
              simp only [Option.map_some, Option.some.injEq] at hj
              obtain ⟨u, k1, k2, k3⟩ := (RIs_iff _ _ _ _).1 hrow j (.int .u8 n) (by simp [hn])
              have k1 : u = .int .u8 n := k1
              subst k1
              have := k3 0 (.int .u8 n) rfl
              rw [addr_add, ← hj]
              simpa using this)
          simpa using this
        rw [run_bytesToString w ⟨b, of, none⟩ _ cap ns hld, foldl_push]
        rfl
    · have : ns = [] := by simpa using hnil
      subst this
      have hyx : a.eval x = .slice none 0 0 := hyx
      rw [hyx, run_convert_bytes_string w src dst el none 0 0 hs2 he2 hd2]
      simp [Conv.bytesToString]; rfl
  · cases h
end Go.Ai
