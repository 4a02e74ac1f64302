/- What comes in of the flat types of this translation, opened: printed by opens.py. -/
import Derived.Test.YtfdjdamepaeoiaaFxNm13
import Derived.Test.YtfdjdamepaeoiaaFxOp
namespace Go.Fx

theorem O_api_ID : Opn PG 23 Idn.enc 16 := .idn (e := 5) Go.Proofs.Try.underlying23 Go.Proofs.Try.underlying5 (by kernel_rfl) (by kernel_rfl)
theorem S_annuletlaw13_Place : strB PG 27 = some [(0, 23), (16, 24), (17, 25)] := by kernel_rfl
theorem C_annuletlaw13_Place : PG.cellsOf 27 = 18 := by kernel_rfl
theorem O_int : Opn PG 3 (fun z : Int => #[Value.int .i64 z]) 1 := .int Go.Proofs.Try.underlying3 (by kernel_rfl)
theorem S_api_Near : strB PG 31 = some [(0, 3), (1, 23)] := by kernel_rfl
theorem C_api_Near : PG.cellsOf 31 = 17 := by kernel_rfl
theorem O_api_Near : Opn PG 31 api_Near.enc 17 := ⟨C_api_Near, fun _ _ _ _ _ _ _ cs x h => by
  obtain ⟨hl, n, xs, _, hf⟩ := trod_fields S_api_Near h
  rw [C_api_Near] at hl
  obtain ⟨y0, e0⟩ := O_int.fld (hf 0 _ _ rfl)
  obtain ⟨y1, e1⟩ := O_api_ID.fld (hf 1 _ _ rfl)
  exact ⟨⟨y0, y1⟩, From.all (.cons e0 rfl (.cons e1 rfl (.nil hl)))⟩⟩
theorem O_int64 : Opn PG 2 (fun z : Int => #[Value.int .i64 z]) 1 := .int Go.Proofs.Try.underlying2 (by kernel_rfl)
theorem S_api_Path : strB PG 33 = some [(0, 23), (16, 2)] := by kernel_rfl
theorem C_api_Path : PG.cellsOf 33 = 17 := by kernel_rfl
theorem O_api_Path : Opn PG 33 api_Path.enc 17 := ⟨C_api_Path, fun _ _ _ _ _ _ _ cs x h => by
  obtain ⟨hl, n, xs, _, hf⟩ := trod_fields S_api_Path h
  rw [C_api_Path] at hl
  obtain ⟨y0, e0⟩ := O_api_ID.fld (hf 0 _ _ rfl)
  obtain ⟨y1, e1⟩ := O_int64.fld (hf 1 _ _ rfl)
  exact ⟨⟨y0, y1⟩, From.all (.cons e0 rfl (.cons e1 rfl (.nil hl)))⟩⟩
theorem S_api_Entry : strB PG 35 = some [(0, 33), (17, 23), (33, 23), (49, 3), (50, 3)] := by kernel_rfl
theorem C_api_Entry : PG.cellsOf 35 = 51 := by kernel_rfl
theorem O_api_Entry : Opn PG 35 api_Entry.enc 51 := ⟨C_api_Entry, fun _ _ _ _ _ _ _ cs x h => by
  obtain ⟨hl, n, xs, _, hf⟩ := trod_fields S_api_Entry h
  rw [C_api_Entry] at hl
  obtain ⟨y0, e0⟩ := O_api_Path.fld (hf 0 _ _ rfl)
  obtain ⟨y1, e1⟩ := O_api_ID.fld (hf 1 _ _ rfl)
  obtain ⟨y2, e2⟩ := O_api_ID.fld (hf 2 _ _ rfl)
  obtain ⟨y3, e3⟩ := O_int.fld (hf 3 _ _ rfl)
  obtain ⟨y4, e4⟩ := O_int.fld (hf 4 _ _ rfl)
  exact ⟨⟨y0, y1, y2, y3, y4⟩, From.all (.cons e0 rfl (.cons e1 rfl (.cons e2 rfl (.cons e3 rfl (.cons e4 rfl (.nil hl))))))⟩⟩
theorem O_bool : Opn PG 4 (fun z : Bool => #[Value.bool z]) 1 := .bool Go.Proofs.Try.underlying4 (by kernel_rfl)
theorem S_route_Choice : strB PG 40 = some [(0, 23), (16, 4), (17, 33), (34, 3)] := by kernel_rfl
theorem C_route_Choice : PG.cellsOf 40 = 35 := by kernel_rfl
theorem O_route_Choice : Opn PG 40 route_Choice.enc 35 := ⟨C_route_Choice, fun _ _ _ _ _ _ _ cs x h => by
  obtain ⟨hl, n, xs, _, hf⟩ := trod_fields S_route_Choice h
  rw [C_route_Choice] at hl
  obtain ⟨y0, e0⟩ := O_api_ID.fld (hf 0 _ _ rfl)
  obtain ⟨y1, e1⟩ := O_bool.fld (hf 1 _ _ rfl)
  obtain ⟨y2, e2⟩ := O_api_Path.fld (hf 2 _ _ rfl)
  obtain ⟨y3, e3⟩ := O_int.fld (hf 3 _ _ rfl)
  exact ⟨⟨y0, y1, y2, y3⟩, From.all (.cons e0 rfl (.cons e1 rfl (.cons e2 rfl (.cons e3 rfl (.nil hl)))))⟩⟩
end Go.Fx
