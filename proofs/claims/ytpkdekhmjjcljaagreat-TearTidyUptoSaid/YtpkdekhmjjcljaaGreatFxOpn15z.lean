/- What comes in of the flat types of this translation, opened: printed by opens.py. -/
import Derived.Test.YtpkdekhmjjcljaaGreatFxNm15z
import Derived.Test.YtpkdekhmjjcljaaGreatFxOp
namespace Go.Fx

theorem O_api_ID : Opn PG 24 Idn.enc 16 := .idn (e := 5) Go.Proofs.Tryz.underlying24 Go.Proofs.Tryz.underlying5 (by kernel_rfl) (by kernel_rfl)
theorem O_ar2_api_ID : Opn PG 25 ar2_api_ID.enc 32 := ⟨by kernel_rfl, fun _ _ _ _ _ _ _ cs x h => by
  obtain ⟨a, b, e⟩ := trod_twoId O_api_ID Go.Proofs.Tryz.underlying25 (by kernel_rfl) h
  exact ⟨⟨a, b⟩, e⟩⟩
theorem O_int64 : Opn PG 2 (fun z : Int => #[Value.int .i64 z]) 1 := .int Go.Proofs.Tryz.underlying2 (by kernel_rfl)
theorem S_api_Path : strB PG 31 = some [(0, 24), (16, 2)] := by kernel_rfl
theorem C_api_Path : PG.cellsOf 31 = 17 := by kernel_rfl
theorem O_api_Path : Opn PG 31 api_Path.enc 17 := ⟨C_api_Path, fun _ _ _ _ _ _ _ cs x h => by
  obtain ⟨hl, n, xs, _, hf⟩ := trod_fields S_api_Path h
  rw [C_api_Path] at hl
  obtain ⟨y0, e0⟩ := O_api_ID.fld (hf 0 _ _ rfl)
  obtain ⟨y1, e1⟩ := O_int64.fld (hf 1 _ _ rfl)
  exact ⟨⟨y0, y1⟩, From.all (.cons e0 rfl (.cons e1 rfl (.nil hl)))⟩⟩
theorem O_int : Opn PG 3 (fun z : Int => #[Value.int .i64 z]) 1 := .int Go.Proofs.Tryz.underlying3 (by kernel_rfl)
theorem S_api_Entry : strB PG 33 = some [(0, 31), (17, 24), (33, 24), (49, 3), (50, 3)] := by kernel_rfl
theorem C_api_Entry : PG.cellsOf 33 = 51 := by kernel_rfl
theorem O_api_Entry : Opn PG 33 api_Entry.enc 51 := ⟨C_api_Entry, fun _ _ _ _ _ _ _ cs x h => by
  obtain ⟨hl, n, xs, _, hf⟩ := trod_fields S_api_Entry h
  rw [C_api_Entry] at hl
  obtain ⟨y0, e0⟩ := O_api_Path.fld (hf 0 _ _ rfl)
  obtain ⟨y1, e1⟩ := O_api_ID.fld (hf 1 _ _ rfl)
  obtain ⟨y2, e2⟩ := O_api_ID.fld (hf 2 _ _ rfl)
  obtain ⟨y3, e3⟩ := O_int.fld (hf 3 _ _ rfl)
  obtain ⟨y4, e4⟩ := O_int.fld (hf 4 _ _ rfl)
  exact ⟨⟨y0, y1, y2, y3, y4⟩, From.all (.cons e0 rfl (.cons e1 rfl (.cons e2 rfl (.cons e3 rfl (.cons e4 rfl (.nil hl))))))⟩⟩
theorem S_api_Num : strB PG 69 = some [(0, 2), (1, 2)] := by kernel_rfl
theorem C_api_Num : PG.cellsOf 69 = 2 := by kernel_rfl
theorem O_api_Num : Opn PG 69 api_Num.enc 2 := ⟨C_api_Num, fun _ _ _ _ _ _ _ cs x h => by
  obtain ⟨hl, n, xs, _, hf⟩ := trod_fields S_api_Num h
  rw [C_api_Num] at hl
  obtain ⟨y0, e0⟩ := O_int64.fld (hf 0 _ _ rfl)
  obtain ⟨y1, e1⟩ := O_int64.fld (hf 1 _ _ rfl)
  exact ⟨⟨y0, y1⟩, From.all (.cons e0 rfl (.cons e1 rfl (.nil hl)))⟩⟩
theorem S_api_Ver : strB PG 72 = some [(0, 2), (1, 24)] := by kernel_rfl
theorem C_api_Ver : PG.cellsOf 72 = 17 := by kernel_rfl
theorem O_api_Ver : Opn PG 72 api_Ver.enc 17 := ⟨C_api_Ver, fun _ _ _ _ _ _ _ cs x h => by
  obtain ⟨hl, n, xs, _, hf⟩ := trod_fields S_api_Ver h
  rw [C_api_Ver] at hl
  obtain ⟨y0, e0⟩ := O_int64.fld (hf 0 _ _ rfl)
  obtain ⟨y1, e1⟩ := O_api_ID.fld (hf 1 _ _ rfl)
  exact ⟨⟨y0, y1⟩, From.all (.cons e0 rfl (.cons e1 rfl (.nil hl)))⟩⟩
theorem S_frame_Drop : strB PG 109 = some [(0, 31)] := by kernel_rfl
theorem C_frame_Drop : PG.cellsOf 109 = 17 := by kernel_rfl
theorem O_frame_Drop : Opn PG 109 frame_Drop.enc 17 := ⟨C_frame_Drop, fun _ _ _ _ _ _ _ cs x h => by
  obtain ⟨hl, n, xs, _, hf⟩ := trod_fields S_frame_Drop h
  rw [C_frame_Drop] at hl
  obtain ⟨y0, e0⟩ := O_api_Path.fld (hf 0 _ _ rfl)
  exact ⟨⟨y0⟩, From.all (.cons e0 rfl (.nil hl))⟩⟩
theorem S_frame_Hello : strB PG 125 = some [(0, 69), (2, 69), (4, 24)] := by kernel_rfl
theorem C_frame_Hello : PG.cellsOf 125 = 20 := by kernel_rfl
theorem O_frame_Hello : Opn PG 125 frame_Hello.enc 20 := ⟨C_frame_Hello, fun _ _ _ _ _ _ _ cs x h => by
  obtain ⟨hl, n, xs, _, hf⟩ := trod_fields S_frame_Hello h
  rw [C_frame_Hello] at hl
  obtain ⟨y0, e0⟩ := O_api_Num.fld (hf 0 _ _ rfl)
  obtain ⟨y1, e1⟩ := O_api_Num.fld (hf 1 _ _ rfl)
  obtain ⟨y2, e2⟩ := O_api_ID.fld (hf 2 _ _ rfl)
  exact ⟨⟨y0, y1, y2⟩, From.all (.cons e0 rfl (.cons e1 rfl (.cons e2 rfl (.nil hl))))⟩⟩
theorem S_frame_Ack : strB PG 129 = some [(0, 69), (2, 69), (4, 2)] := by kernel_rfl
theorem C_frame_Ack : PG.cellsOf 129 = 5 := by kernel_rfl
theorem O_frame_Ack : Opn PG 129 frame_Ack.enc 5 := ⟨C_frame_Ack, fun _ _ _ _ _ _ _ cs x h => by
  obtain ⟨hl, n, xs, _, hf⟩ := trod_fields S_frame_Ack h
  rw [C_frame_Ack] at hl
  obtain ⟨y0, e0⟩ := O_api_Num.fld (hf 0 _ _ rfl)
  obtain ⟨y1, e1⟩ := O_api_Num.fld (hf 1 _ _ rfl)
  obtain ⟨y2, e2⟩ := O_int64.fld (hf 2 _ _ rfl)
  exact ⟨⟨y0, y1, y2⟩, From.all (.cons e0 rfl (.cons e1 rfl (.cons e2 rfl (.nil hl))))⟩⟩
theorem O_bool : Opn PG 4 (fun z : Bool => #[Value.bool z]) 1 := .bool Go.Proofs.Tryz.underlying4 (by kernel_rfl)
theorem S_frame_Part : strB PG 133 = some [(0, 31), (17, 4)] := by kernel_rfl
theorem C_frame_Part : PG.cellsOf 133 = 18 := by kernel_rfl
theorem O_frame_Part : Opn PG 133 frame_Part.enc 18 := ⟨C_frame_Part, fun _ _ _ _ _ _ _ cs x h => by
  obtain ⟨hl, n, xs, _, hf⟩ := trod_fields S_frame_Part h
  rw [C_frame_Part] at hl
  obtain ⟨y0, e0⟩ := O_api_Path.fld (hf 0 _ _ rfl)
  obtain ⟨y1, e1⟩ := O_bool.fld (hf 1 _ _ rfl)
  exact ⟨⟨y0, y1⟩, From.all (.cons e0 rfl (.cons e1 rfl (.nil hl)))⟩⟩
theorem S_frame_Advert : strB PG 139 = some [(0, 24), (16, 2)] := by kernel_rfl
theorem C_frame_Advert : PG.cellsOf 139 = 17 := by kernel_rfl
theorem O_frame_Advert : Opn PG 139 frame_Advert.enc 17 := ⟨C_frame_Advert, fun _ _ _ _ _ _ _ cs x h => by
  obtain ⟨hl, n, xs, _, hf⟩ := trod_fields S_frame_Advert h
  rw [C_frame_Advert] at hl
  obtain ⟨y0, e0⟩ := O_api_ID.fld (hf 0 _ _ rfl)
  obtain ⟨y1, e1⟩ := O_int64.fld (hf 1 _ _ rfl)
  exact ⟨⟨y0, y1⟩, From.all (.cons e0 rfl (.cons e1 rfl (.nil hl)))⟩⟩
theorem S_frame_Got : strB PG 146 = some [(0, 31), (17, 4), (18, 24), (34, 72)] := by kernel_rfl
theorem C_frame_Got : PG.cellsOf 146 = 51 := by kernel_rfl
theorem O_frame_Got : Opn PG 146 frame_Got.enc 51 := ⟨C_frame_Got, fun _ _ _ _ _ _ _ cs x h => by
  obtain ⟨hl, n, xs, _, hf⟩ := trod_fields S_frame_Got h
  rw [C_frame_Got] at hl
  obtain ⟨y0, e0⟩ := O_api_Path.fld (hf 0 _ _ rfl)
  obtain ⟨y1, e1⟩ := O_bool.fld (hf 1 _ _ rfl)
  obtain ⟨y2, e2⟩ := O_api_ID.fld (hf 2 _ _ rfl)
  obtain ⟨y3, e3⟩ := O_api_Ver.fld (hf 3 _ _ rfl)
  exact ⟨⟨y0, y1, y2, y3⟩, From.all (.cons e0 rfl (.cons e1 rfl (.cons e2 rfl (.cons e3 rfl (.nil hl)))))⟩⟩
end Go.Fx
