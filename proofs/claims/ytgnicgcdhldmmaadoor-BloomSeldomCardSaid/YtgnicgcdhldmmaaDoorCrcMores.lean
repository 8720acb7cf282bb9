/- The walk of the law CrcMores. -/
import Derived.Test.YtgnicgcdhldmmaaDoorCrcHead
namespace Go.Proofs.YtgnicgcdhldmmaaDoor.Crc
open Go.Proofs.YtgnicgcdhldmmaaDoor.Kit Go.RowKit Go.Proofs.YtgnicgcdhldmmaaDoorW.PrintWords Go.Proofs.YtgnicgcdhldmmaaDoorW.PrintLast Go.Proofs.YtgnicgcdhldmmaaDoorW.PrintMore

theorem info5 : (Tryd.prog.info? 5).map (fun i => (i.zero, i.size, i.bytes)) = some (some (.int .u8 0), 1, 1) := by kernel_rfl
theorem isByte_wf {l : List Int} (h : ∀ x ∈ l, (Lit.int .u8 x).wf = true) : isByte l := fun x hx => by
  have := h x hx
  simp [Lit.wf, IntKind.min, IntKind.max, IntKind.signed, IntKind.bits] at this
  omega
theorem isByte_nil : isByte [] := fun _ hx => absurd hx List.not_mem_nil
theorem isByte_append {l k : List Int} (h : isByte l) (h' : isByte k) : isByte (l ++ k) := fun x hx => by
  rcases List.mem_append.1 hx with hx | hx
  · exact h x hx
  · exact h' x hx
theorem tb : SlTy Tryd.prog 25 5 (.int .u8 0) 1 := ⟨Tryd.underlying25, info5, rfl, by decide⟩
end Go.Proofs.YtgnicgcdhldmmaaDoor.Crc
