/-
  The walk over the table's making.
-/
import Derived.Test.YtljphijjcagciaaPoly2
namespace Go.Proofs.Ytljphijjcagciaa
open Go.RowKit

theorem zero79 : Try.zeroCells79 = (List.replicate 256 (Value.int .u32 0)).toArray := by kernel_rfl

theorem tabSize : (Try.prog.info? 79).map (·.size) = some 256 := by kernel_rfl

set_option maxRecDepth 100000 in
theorem Make_any (w : World) :
    Calls Try.prog 34 #[] w fun e w' => e = .returned (.agg (tabWay 256).toArray) ∧ Upd noBlk w w' := by
  go_enter Try.func34, Try.ntmps34
  go_wp2_with fail
  go_loopw [3] (fun i wr => ∃ k : Nat, k ≤ 256 ∧ i = .int .i64 k ∧ Row wr (w.heap.size + 1) 79 (tabWay k) ∧ wr.heap.size = w.heap.size + 2 ∧ Row wr w.heap.size 79 (List.replicate 256 (.int .u32 0)) ∧ Upd noBlk w wr) (fun i _ => 256 - (intOf i).toNat)
  case atStart =>
    refine ⟨0, by omega, rfl, ?_, by simp, ?_, ((Upd.refl _ _).alloc _).alloc _⟩
    · have := Row.new (w.alloc (.cells Try.zeroCells79 79)) (List.replicate 256 (.int .u32 0)) 79
      rw [World.size_alloc, ← zero79] at this
      rw [tabWay_zero]; exact this
    · have := (Row.new w (List.replicate 256 (.int .u32 0)) 79).alloc (.cells Try.zeroCells79 79)
      rw [← zero79] at this
      exact this
  case round =>
    obtain ⟨k, hk, rfl, hr, hsz, hr0, hu⟩ := hrel
    by_cases hlt : k < 256
    · have hc := hr.get (tabWay_get k k hlt)
      have hfz := hr.frozen k

      have HC := hid (fun w => step_any ((k : Int) * 16777216) (by omega) (by omega) w)

      rw [← polyTab_getD k hlt] at HC

      have hset := hr.put k _ (tabWay_set k hlt)
      have hr0' := hr0.far (p := ⟨w.heap.size + 1, k, none⟩) (by show w.heap.size ≠ w.heap.size + 1; omega) (.int .u32 (polyTab.getD k 0))
      have hu' := hu.setCell (p := ⟨w.heap.size + 1, k, none⟩) (.inr (by show w.heap.size ≤ w.heap.size + 1; omega)) (.int .u32 (polyTab.getD k 0))
      generalize polyTab.getD k 0 = v at *
      have HSET := hid hset; have HR0 := hid hr0'; have HU := hid hu'; have HSZ := hid hsz
      clear hset hr0' hu' hr hr0 hu hsz
      rw [if_neg (Nat.lt_irrefl k)] at hc
      go_wp2_with fail
      refine (HC.out _).mono ?_; rintro e w1 ⟨rfl, rfl⟩
      go_wp2_with fail
      exact ⟨⟨k + 1, by omega, by go_num, HSET.out, by simpa using HSZ.out, HR0.out, HU.out⟩, by simp [intOf]; omega⟩
    · have e : k = 256 := by omega
      subst e
      have hlen := tabWay_length 256
      have hone : (tabWay 256).toArray.all (·.oneCell') = true := by
        rw [Array.all_eq_true_iff_forall_mem]
        intro v hv
        unfold tabWay at hv
        rw [List.mem_toArray, List.mem_map] at hv
        obtain ⟨j, _, rfl⟩ := hv
        rfl
      generalize hT : tabWay 256 = T at *
      have hsT : (Try.prog.info? 79).map (·.size) = some T.toArray.size := by rw [List.size_toArray, hlen]; exact tabSize
      have hs0 : (List.replicate 256 (Value.int .u32 0)).toArray.size = T.toArray.size := by rw [List.size_toArray, List.size_toArray, hlen, List.length_replicate]
      have HT := hid hT; have HR := hid hr; have HR0 := hid hr0; have HU := hid hu; have HST := hid hsT; have HS0 := hid hs0; have HONE := hid hone
      clear hT hr hr0 hu hsz hlen hsT hs0 hone
      go_wp2_with (first
        | (refine wpList_load_row rfl 79 _ rfl (w.heap.size + 1) rfl 79 T.toArray (0, 0) _ HR.out Try.underlying79 rfl HST.out ?_)
        | (refine wpList_store_row rfl 79 _ _ rfl w.heap.size T.toArray rfl rfl 79 _ HR0.out HST.out HS0.out HONE.out ?_))
      have hfin : (wr.setRow w.heap.size T.toArray).heap[w.heap.size]? = some (.cells T.toArray 79 (0, 0)) := setRow_heap _ _ _ _ _ _ HR0.out
      refine bodyPost_ret (results_cell_row rfl _ _ w.heap.size 79 _ (0, 0) _ rfl hfin Try.underlying79 rfl HST.out) rfl ⟨by rw [HT.out], ?_⟩
      exact ⟨HU.out.os, HU.out.tape, HU.out.output, by rw [setRow_size]; exact HU.out.size, fun j hj hn => by rw [setRow_other _ _ _ _ (by omega)]; exact HU.out.block j hj hn⟩

end Go.Proofs.Ytljphijjcagciaa
