/- Texts of ours, part 5: our library and contracts of functions. -/
import Derived.Test.YtgdfnfffibhkjaaGreatDoorB04
import Derived.Test.YtgdfnfffibhkjaaGreatDoorProg
set_option linter.unusedSimpArgs false
set_option linter.unusedVariables false
set_option maxRecDepth 100000
set_option maxHeartbeats 40000000
section
namespace Go.Av
open Go Go.Proofs Go.Proofs.Tryz
abbrev tA (t:Nat) (k:TK) (s b:Nat):Prop:=tk prog t=k∧tsz prog t=some s∧tby prog t=some b
abbrev tB (t:Nat) (k:TK) (s b:Nat) (a:Bool) (z:List AV):Prop:=tA t k s b∧zgk prog t=some a∧tz prog t=some z
abbrev tF (t f o y:Nat):Prop:=zJe prog t f=some o∧zMX prog t f=some y
abbrev tI (t:Nat):Prop:=tfi prog t=true
@[go_sem] theorem t0:tA 0 .other 1 0∧zgk prog 0=some false∧tB 1 .other 1 8 false [(.v .nilFunc)]∧tB 2 (.int .i64) 1 8 false [(.int 0)]∧tz1 prog 2=some (.int .i64 0)∧tB 3 (.int .i64) 1 8 false [(.int 0)]∧tz1 prog 3=some (.int .i64 0)∧tB 4 .bool 1 1 false [(.bool false)]∧tz1 prog 4=some (.bool false)∧tB 5 (.int .u8) 1 1 false [(.v (.int .u8 0))]∧tz1 prog 5=some (.int .u8 0)∧tB 6 (.int .u8) 1 1 false [(.v (.int .u8 0))]∧tz1 prog 6=some (.int .u8 0)∧tB 7 .str 4 24 true [(.int 0),(.int 0),(.bool false),(.v (.int .u8 0))]∧tF 7 0 0 2∧tF 7 1 1 3∧tF 7 2 2 4∧tF 7 3 3 6∧tI 7∧zmQ prog 7=some [false,false,true,false]:=am
@[go_sem] theorem t1:tB 8 .str 4 24 true [(.int 0),(.int 0),(.bool false),(.v (.int .u8 0))]∧tF 8 0 0 2∧tF 8 1 1 3∧tF 8 2 2 4∧tF 8 3 3 6∧tI 8∧zmQ prog 8=some [false,false,true,false]∧tB 9 .string 1 16 false [(.v (.string ⟨⟨[]⟩⟩))]∧tz1 prog 9=some (.string ⟨⟨[]⟩⟩)∧tB 10 .string 1 16 false [(.v (.string ⟨⟨[]⟩⟩))]∧tz1 prog 10=some (.string ⟨⟨[]⟩⟩)∧tB 11 .string 1 16 false [(.v (.string ⟨⟨[]⟩⟩))]∧tz1 prog 11=some (.string ⟨⟨[]⟩⟩)∧tB 12 (.int .u64) 1 8 false [(.v (.int .u64 0))]∧tz1 prog 12=some (.int .u64 0)∧tB 20 .other 1 16 false [(.v .nilIface)]∧tB 21 (.int .i32) 1 4 false [(.v (.int .i32 0))]∧tz1 prog 21=some (.int .i32 0)∧tB 22 (.sl 5) 1 24 false [.nils]∧tB 23 (.arr 2 22) 2 48 true [.nils, .nils]:=am
@[go_sem] theorem t2:tB 24 (.sl 152) 1 24 false [.nils]∧tB 25 (.arr 6 5) 6 6 true [(.v (.int .u8 0)),(.v (.int .u8 0)),(.v (.int .u8 0)),(.v (.int .u8 0)),(.v (.int .u8 0)),(.v (.int .u8 0))]∧tB 27 .str 12 88 true [(.v (.int .u8 0)),(.v (.int .u8 0)),(.v (.int .u8 0)), .nils, .nils, .nils,(.v (.int .u8 0)),(.v (.int .u8 0)),(.v (.int .u8 0)),(.v (.int .u8 0)),(.v (.int .u8 0)),(.v (.int .u8 0))]∧tF 27 0 0 5∧tF 27 1 1 5∧tF 27 2 2 5∧tF 27 3 3 23∧tF 27 4 5 24∧tF 27 5 6 25∧tI 27∧tB 28 (.arr 4 5) 4 4 true [(.v (.int .u8 0)),(.v (.int .u8 0)),(.v (.int .u8 0)),(.v (.int .u8 0))]∧tB 30 .str 18 18 true [(.v (.int .u8 0)),(.v (.int .u8 0)),(.v (.int .u8 0)),(.v (.int .u8 0)),(.v (.int .u8 0)),(.v (.int .u8 0)),(.v (.int .u8 0)),(.v (.int .u8 0)),(.v (.int .u8 0)),(.v (.int .u8 0)),(.v (.int .u8 0)),(.v (.int .u8 0)),(.v (.int .u8 0)),(.v (.int .u8 0)),(.v (.int .u8 0)),(.v (.int .u8 0)),(.v (.int .u8 0)),(.v (.int .u8 0))]∧tF 30 0 0 25∧tF 30 1 6 25∧tF 30 2 12 28∧tF 30 3 16 5∧tF 30 4 17 5∧tI 30∧tB 32 .str 31 136 true [(.v (.int .u8 0)),(.v (.int .u8 0)),(.v (.int .u8 0)), .nils, .nils, .nils,(.v (.int .u8 0)),(.v (.int .u8 0)),(.v (.int .u8 0)),(.v (.int .u8 0)),(.v (.int .u8 0)),(.v (.int .u8 0)),(.v (.int .u8 0)),(.v (.int .u8 0)),(.v (.int .u8 0)),(.v (.int .u8 0)),(.v (.int .u8 0)),(.v (.int .u8 0)),(.v (.int .u8 0)),(.v (.int .u8 0)),(.v (.int .u8 0)),(.v (.int .u8 0)),(.v (.int .u8 0)),(.v (.int .u8 0)),(.v (.int .u8 0)),(.v (.int .u8 0)),(.v (.int .u8 0)),(.v (.int .u8 0)),(.v (.int .u8 0)),(.v (.int .u8 0)), .nils]∧tF 32 0 0 27:=am
@[go_sem] theorem t3:tF 32 1 12 30∧tF 32 2 30 22∧tI 32∧tB 34 (.sl 35) 1 24 false [.nils]∧tB 35 (.sl 3) 1 24 false [.nils]∧tB 37 .str 3 56 true [(.int 0), .nils, .nils]∧tF 37 0 0 3∧tF 37 1 1 34∧tF 37 2 2 35∧tI 37∧tB 38 (.sl 150) 1 24 false [.nils]∧tB 39 (.sl 154) 1 24 false [.nils]∧tB 41 .str 9 136 true [(.int 0), .nils, .nils, .nils,(.int 0),(.bool false), .nils,(.int 0),(.int 0)]∧tF 41 0 0 37∧tF 41 1 3 38∧tF 41 2 4 3∧tF 41 3 5 4∧tF 41 4 6 39∧tF 41 5 7 3∧tF 41 6 8 3:=am
@[go_sem] theorem t4:tI 41∧tB 42 (.arr 2 35) 2 48 true [.nils, .nils]∧tB 44 .str 5 88 true [.nils, .nils, .nils,(.int 0),(.int 0)]∧tF 44 0 0 35∧tF 44 1 1 42∧tF 44 2 3 3∧tF 44 3 4 3∧tI 44∧tA 45 .other 1 0∧zgk prog 45=some false∧tB 48 (.sl 50) 1 24 false [.nils]∧tB 50 .str 2 48 true [.nils, .nils]∧tF 50 0 0 48∧tF 50 1 1 48∧tI 50∧tB 51 (.int .i64) 1 8 false [(.int 0)]∧tz1 prog 51=some (.int .i64 0)∧tB 53 .str 3 56 true [.nils, .nils,(.int 0)]∧tF 53 0 0 50∧tF 53 1 2 51:=am
@[go_sem] theorem t5:tI 53∧tB 56 .str 2 48 true [.nils, .nils]∧tF 56 0 0 34∧tF 56 1 1 34∧tI 56∧tB 58 .str 3 56 true [.nils, .nils,(.int 0)]∧tF 58 0 0 56∧tF 58 1 2 51∧tI 58∧tB 64 .str 6 96 true [.nils, .nils, .nils,(.int 0),(.int 0),(.int 0)]∧tF 64 0 0 44∧tF 64 1 5 51∧tI 64∧tB 67 .str 2 16 true [(.int 0),(.int 0)]∧tF 67 0 0 3∧tF 67 1 1 51∧tI 67∧zmQ prog 67=some [false,false]∧tB 69 .other 1 8 false [(.v .nilFunc)]∧tB 71 .str 2 16 true [(.int 0),(.int 0)]:=am
@[go_sem] theorem t6:tF 71 0 0 3∧tF 71 1 1 3∧tI 71∧zmQ prog 71=some [false,false]∧tB 73 .str 3 24 true [(.int 0),(.int 0),(.int 0)]∧tF 73 0 0 71∧tF 73 1 2 51∧tI 73∧tB 81 (.sl 44) 1 24 false [.nils]∧tB 87 .str 4 80 true [.nils, .nils, .nils,(.bool false)]∧tF 87 0 0 81∧tF 87 1 1 34∧tF 87 2 2 34∧tF 87 3 3 4∧tI 87∧tB 92 .str 2 16 true [(.int 0),(.int 0)]∧tF 92 0 0 3∧tF 92 1 1 3∧tI 92∧zmQ prog 92=some [false,false]:=am
@[go_sem] theorem t7:tB 94 (.sl 92) 1 24 false [.nils]∧tB 95 (.sl 94) 1 24 false [.nils]∧tA 100 .other 1 0∧zgk prog 100=some false∧tA 106 .other 1 0∧zgk prog 106=some false∧tA 110 .other 1 0∧zgk prog 110=some false∧tB 112 (.arr 2 3) 2 16 true [(.int 0),(.int 0)]∧tA 113 .other 1 0∧zgk prog 113=some false∧tA 117 .other 1 0∧zgk prog 117=some false∧tB 121 .str 2 16 true [(.int 0),(.int 0)]∧tF 121 0 0 3∧tF 121 1 1 3∧tI 121∧zmQ prog 121=some [false,false]∧tB 123 .str 2 32 true [.nils,(.int 0)]∧tF 123 0 0 81:=am
@[go_sem] theorem t8:tF 123 1 1 51∧tI 123∧tB 126 .str 2 16 true [(.int 0),(.int 0)]∧tF 126 0 0 3∧tF 126 1 1 3∧tI 126∧zmQ prog 126=some [false,false]∧tB 127 (.sl 126) 1 24 false [.nils]∧tB 129 .str 3 56 true [.nils, .nils,(.int 0)]∧tF 129 0 0 127∧tF 129 1 1 35∧tF 129 2 2 51∧tI 129∧tB 131 (.arr 4 3) 4 32 true [(.int 0),(.int 0),(.int 0),(.int 0)]∧tB 133 (.ptr 190) 1 8 false [(.v (.pointer .none))]∧tB 135 (.ptr 202) 1 8 false [(.v (.pointer .none))]∧tB 138 .other 1 8 false [(.v .nilFunc)]∧tB 142 (.sl 145) 1 24 false [.nils]∧tB 145 .str 6 96 true [.nils, .nils, .nils,(.int 0),(.int 0),(.bool false)]∧tF 145 0 0 44:=am
@[go_sem] theorem t9:tF 145 1 5 4∧tI 145∧tB 148 (.sl 9) 1 24 false [.nils]∧tB 150 .str 3 48 true [(.v (.string ⟨⟨[]⟩⟩)), .nils,(.bool false)]∧tF 150 0 0 9∧tF 150 1 1 95∧tF 150 2 2 4∧tI 150∧tB 152 (.arr 3 5) 3 3 true [(.v (.int .u8 0)),(.v (.int .u8 0)),(.v (.int .u8 0))]∧tB 154 .str 4 32 true [(.int 0),(.int 0),(.int 0),(.int 0)]∧tF 154 0 0 3∧tF 154 1 1 3∧tF 154 2 2 3∧tF 154 3 3 3∧tI 154∧zmQ prog 154=some [false,false,false,false]∧tA 155 .other 1 0∧zgk prog 155=some false∧tB 157 (.sl 4) 1 24 false [.nils]∧tB 162 .str 3 56 true [.nils, .nils,(.bool false)]:=am
@[go_sem] theorem t10:tF 162 0 0 50∧tF 162 1 2 4∧tI 162∧tA 164 .other 1 0∧zgk prog 164=some false∧tA 169 .other 1 0∧zgk prog 169=some false∧tB 172 (.ptr 3) 1 8 false [(.v (.pointer .none))]∧tA 177 .other 1 0∧zgk prog 177=some false∧tA 183 .other 1 0∧zgk prog 183=some false∧tB 187 (.map 9 135) 1 8 false [(.v (.map .none))]∧tB 188 (.map 207 4) 1 8 false [(.v (.map .none))]∧tB 190 .str 3 24 true [(.v (.map .none)),(.v (.map .none)),(.v (.map .none))]∧tF 190 0 0 187∧tF 190 1 1 188∧tF 190 2 2 187∧tI 190∧tB 191 (.sl 135) 1 24 false [.nils]:=am
@[go_sem] theorem t11:tB 193 (.ptr 195) 1 8 false [(.v (.pointer .none))]∧tB 195 .str 2 32 true [(.v (.pointer .none)), .nils]∧tF 195 0 0 193∧tF 195 1 1 22∧tI 195∧tB 197 .other 1 16 false [(.v .nilIface)]∧tA 199 .other 1 0∧zgk prog 199=some false∧tB 202 .str 3 64 true [(.v (.string ⟨⟨[]⟩⟩)), .nils, .nils]∧tF 202 0 0 9∧tF 202 1 1 191∧tF 202 2 2 191∧tI 202∧tB 203 .other 1 8 false [(.v .nilFunc)]∧tA 205 .other 1 0∧zgk prog 205=some false∧tB 207 .str 2 32 true [(.v (.string ⟨⟨[]⟩⟩)),(.v (.string ⟨⟨[]⟩⟩))]∧tF 207 0 0 9∧tF 207 1 1 9∧tI 207:=am
@[go_sem] theorem t12:tA 208 .other 1 0∧zgk prog 208=some false∧tB 209 .other 1 8 false [(.v .nilFunc)]∧tA 211 .other 1 0∧zgk prog 211=some false∧tB 216 .str 2 16 true [(.int 0),(.int 0)]∧tF 216 0 0 3∧tF 216 1 1 3∧tI 216∧zmQ prog 216=some [false,false]∧tA 218 .other 1 0∧zgk prog 218=some false∧tB 220 .other 1 8 false [(.v .nilFunc)]∧tA 221 .other 1 0∧zgk prog 221=some false∧tB 227 .other 1 8 false [(.v .nilFunc)]∧tB 230 (.map 9 3) 1 8 false [(.v (.map .none))]∧tB 231 (.ptr 34) 1 8 false [(.v (.pointer .none))]∧tB 232 (.arr 2 231) 2 16 true [(.v (.pointer .none)),(.v (.pointer .none))]∧tA 233 .other 1 0:=am
@[go_sem] theorem t13:zgk prog 233=some false∧tB 234 .other 1 8 false [(.v .nilFunc)]∧tB 236 .other 1 8 false [(.v .nilFunc)]∧tB 238 (.arr 2 48) 2 48 true [.nils, .nils]∧tB 239 (.sl 245) 1 24 false [.nils]∧tB 243 (.sl 304) 1 24 false [.nils]∧tB 245 .str 2 32 true [.nils,(.int 0)]∧tF 245 0 0 243∧tF 245 1 1 3∧tI 245∧tB 247 .other 1 8 false [(.v .nilFunc)]∧tB 248 .other 1 8 false [(.v .nilFunc)]∧tB 250 (.map 9 4) 1 8 false [(.v (.map .none))]∧tA 251 .other 1 0∧zgk prog 251=some false∧tB 253 .other 1 8 false [(.v .nilFunc)]∧tB 259 (.sl 262) 1 24 false [.nils]∧tB 262 .str 3 24 true [(.int 0),(.int 0),(.bool false)]∧tF 262 0 0 126∧tF 262 1 2 4:=am
@[go_sem] theorem t14:tI 262∧tB 265 (.ptr 5) 1 8 false [(.v (.pointer .none))]∧tB 270 .other 1 8 false [(.v .nilFunc)]∧tB 272 .other 1 8 false [(.v .nilFunc)]∧tB 273 (.sl 277) 1 24 false [.nils]∧tB 275 .str 2 32 true [.nils,(.int 0)]∧tF 275 0 0 273∧tF 275 1 1 51∧tI 275∧tB 277 (.sl 279) 1 24 false [.nils]∧tB 279 .str 8 112 true [.nils, .nils, .nils,(.int 0),(.int 0),(.int 0),(.int 0),(.bool false)]∧tF 279 0 0 44∧tF 279 1 5 3∧tF 279 2 6 3∧tF 279 3 7 4∧tI 279∧tB 284 .other 1 8 false [(.v .nilFunc)]∧tB 290 .other 1 8 false [(.v .nilFunc)]∧tB 295 (.arr 64 3) 64 512 true [(.int 0),(.int 0),(.int 0),(.int 0),(.int 0),(.int 0),(.int 0),(.int 0),(.int 0),(.int 0),(.int 0),(.int 0),(.int 0),(.int 0),(.int 0),(.int 0),(.int 0),(.int 0),(.int 0),(.int 0),(.int 0),(.int 0),(.int 0),(.int 0),(.int 0),(.int 0),(.int 0),(.int 0),(.int 0),(.int 0),(.int 0),(.int 0),(.int 0),(.int 0),(.int 0),(.int 0),(.int 0),(.int 0),(.int 0),(.int 0),(.int 0),(.int 0),(.int 0),(.int 0),(.int 0),(.int 0),(.int 0),(.int 0),(.int 0),(.int 0),(.int 0),(.int 0),(.int 0),(.int 0),(.int 0),(.int 0),(.int 0),(.int 0),(.int 0),(.int 0),(.int 0),(.int 0),(.int 0),(.int 0)]∧tB 296 (.sl 301) 1 24 false [.nils]:=am
@[go_sem] theorem t15:tB 297 (.arr 2 296) 2 48 true [.nils, .nils]∧tB 299 .str 2 48 true [.nils, .nils]∧tF 299 0 0 297∧tI 299∧tB 301 (.sl 239) 1 24 false [.nils]∧tB 304 .str 3 24 true [(.int 0),(.int 0),(.int 0)]∧tF 304 0 0 3∧tF 304 1 1 3∧tF 304 2 2 3∧tI 304∧zmQ prog 304=some [false,false,false]∧tB 307 .other 1 8 false [(.v .nilFunc)]∧tB 308 (.arr 4 307) 4 32 true [(.v .nilFunc),(.v .nilFunc),(.v .nilFunc),(.v .nilFunc)]∧tB 309 .other 1 8 false [(.v .nilFunc)]∧tA 310 .other 1 0∧zgk prog 310=some false∧tB 315 .str 8 112 true [.nils, .nils, .nils,(.int 0),(.int 0),(.int 0),(.int 0),(.bool false)]∧tF 315 0 0 44∧tF 315 1 5 3∧tF 315 2 6 3:=am
@[go_sem] theorem t16:tF 315 3 7 4∧tI 315∧tB 317 .other 1 8 false [(.v .nilFunc)]∧tB 319 (.int .u64) 1 8 false [(.v (.int .u64 0))]∧tz1 prog 319=some (.int .u64 0)∧tB 321 (.sl 121) 1 24 false [.nils]∧tA 322 .other 1 0∧zgk prog 322=some false∧tB 326 .str 2 16 true [(.int 0),(.bool false)]∧tF 326 0 0 3∧tF 326 1 1 4∧tI 326∧zmQ prog 326=some [false,true]∧tB 328 .other 1 8 false [(.v (.pointer .none))]∧tB 330 (.sl 191) 1 24 false [.nils]∧tB 336 .other 1 8 false [(.v .nilFunc)]∧tB 338 .str 2 24 true [(.v (.string ⟨⟨[]⟩⟩)),(.int 0)]∧tF 338 0 0 9∧tF 338 1 1 3∧tI 338:=am
@[go_sem] theorem t17:tA 339 .other 1 0∧zgk prog 339=some false∧tB 341 .other 1 8 false [(.v .nilFunc)]∧tB 345 .other 1 8 false [(.v .nilFunc)]∧tB 349 .other 1 8 false [(.v .nilFunc)]∧tB 350 (.ptr 295) 1 8 false [(.v (.pointer .none))]∧tB 355 .other 1 8 false [(.v .nilFunc)]∧tB 357 .other 1 8 false [(.v .nilFunc)]∧tB 361 .str 9 136 true [(.int 0), .nils, .nils, .nils,(.int 0),(.bool false), .nils,(.int 0),(.int 0)]∧tF 361 0 0 41∧tI 361∧tB 365 (.int .i64) 1 8 false [(.int 0)]∧tz1 prog 365=some (.int .i64 0)∧tA 366 .other 1 0∧zgk prog 366=some false∧tB 372 (.int .u32) 1 4 false [(.v (.int .u32 0))]∧tz1 prog 372=some (.int .u32 0)∧tB 374 (.int .u64) 1 8 false [(.v (.int .u64 0))]∧tz1 prog 374=some (.int .u64 0)∧tB 379 (.arr 11 338) 22 264 true [(.v (.string ⟨⟨[]⟩⟩)),(.int 0),(.v (.string ⟨⟨[]⟩⟩)),(.int 0),(.v (.string ⟨⟨[]⟩⟩)),(.int 0),(.v (.string ⟨⟨[]⟩⟩)),(.int 0),(.v (.string ⟨⟨[]⟩⟩)),(.int 0),(.v (.string ⟨⟨[]⟩⟩)),(.int 0),(.v (.string ⟨⟨[]⟩⟩)),(.int 0),(.v (.string ⟨⟨[]⟩⟩)),(.int 0),(.v (.string ⟨⟨[]⟩⟩)),(.int 0),(.v (.string ⟨⟨[]⟩⟩)),(.int 0),(.v (.string ⟨⟨[]⟩⟩)),(.int 0)]:=am
@[go_sem] theorem t18:tB 384 .other 1 8 false [(.v .nilFunc)]∧tB 386 (.sl 315) 1 24 false [.nils]∧tB 389 (.map 4 3) 1 8 false [(.v (.map .none))]∧tB 395 (.int .u64) 1 8 false [(.v (.int .u64 0))]∧tz1 prog 395=some (.int .u64 0)∧tB 401 .other 1 8 false [(.v .nilFunc)]∧tB 402 .other 1 8 false [(.v .nilFunc)]∧tB 404 (.arr 11 402) 11 88 true [(.v .nilFunc),(.v .nilFunc),(.v .nilFunc),(.v .nilFunc),(.v .nilFunc),(.v .nilFunc),(.v .nilFunc),(.v .nilFunc),(.v .nilFunc),(.v .nilFunc),(.v .nilFunc)]∧tB 414 (.ptr 395) 1 8 false [(.v (.pointer .none))]∧tB 416 (.sl 243) 1 24 false [.nils]∧tB 418 .other 1 8 false [(.v .nilFunc)]∧tB 419 .other 1 8 false [(.v .nilFunc)]∧tB 428 (.arr 24 5) 24 24 true [(.v (.int .u8 0)),(.v (.int .u8 0)),(.v (.int .u8 0)),(.v (.int .u8 0)),(.v (.int .u8 0)),(.v (.int .u8 0)),(.v (.int .u8 0)),(.v (.int .u8 0)),(.v (.int .u8 0)),(.v (.int .u8 0)),(.v (.int .u8 0)),(.v (.int .u8 0)),(.v (.int .u8 0)),(.v (.int .u8 0)),(.v (.int .u8 0)),(.v (.int .u8 0)),(.v (.int .u8 0)),(.v (.int .u8 0)),(.v (.int .u8 0)),(.v (.int .u8 0)),(.v (.int .u8 0)),(.v (.int .u8 0)),(.v (.int .u8 0)),(.v (.int .u8 0))]∧tA 430 .other 1 0∧zgk prog 430=some false:=am
end Go.Av
end
section
open Go Go.Proofs
namespace Go.Av
def zd2 (n:Int):List AV:= [.int n]
def zaG (l:List Int):AV:= .lst 1 (l.map zd2)
def zcU (l:List (List Int)):AV:= .lst 1 (l.map λ l=> [zaG l])
structure zhn where
 name:ByteArray
 progs:List (List (Int×Int))
 keep:Bool
 deriving Inhabited
structure zaa where
 cells:Int
 next:List (List Int)
 turn:List Int
 kinds:List zhn
 rights:Int
 must:Bool
 clauses:List (Int×Int×Int×Int)
 blocked:Int
 endless:Int
structure zae where
 at_:List Int
 h0:List Int
 h1:List Int
 rights:Int
 side:Int
 deriving DecidableEq
def zbT (s:Int×Int):List AV:= [.int s.1, .int s.2]
def zbq (k:zhn):List AV:= [.v (.string k.name), .lst 1 (k.progs.map λ p=> [.lst 2 (p.map zbT)]), .v (.bool k.keep)]
def zaZ (c:Int×Int×Int×Int):List AV:= [.int c.1, .int c.2.1, .int c.2.2.1, .int c.2.2.2]
def zKg (cells:Int) (next:List (List Int)) (turn:List Int):List AV:= [.int cells,zcU next,zaG turn]
def zad (g:zaa):List AV:= [.int g.cells,zcU g.next,zaG g.turn, .lst 3 (g.kinds.map zbq), .int g.rights, .v (.bool g.must), .lst 4 (g.clauses.map zaZ), .int g.blocked, .int g.endless]
def zag (p:zae):List AV:= [zaG p.at_,zaG p.h0,zaG p.h1, .int p.rights, .int p.side]
attribute [go_sem] zd2 zaG zcU zbT zbq zaZ zKg zad zag
def zkq (l:List Int):Prop:=l.length<=1099511627776
variable {l:List Int} {j n:Nat}
theorem zJU :(∀r ∈ l.map zd2,∀c ∈ r,Bel n c)=True:=by
 refine eq_true ?_;intro r hr c hc;obtain ⟨x, _,rfl⟩:=List.mem_map.1 hr;simp only [zd2,List.mem_singleton] at hc;subst hc;exact .v _
theorem zBQ :Bel n (.lst 1 (l.map zd2))=True:=by rw [zel,zJU]
attribute [go_sem high] zBQ

def zb1 (a b:Int):Int:=if a<b then -1 else if b<a then 1 else 0
theorem zkI (a b:Int):zav Tryz.prog 59 [.int a, .int b] (.int (zb1 a b)):=by
 refine pF Tryz.func59 ?_;simp [go_sem];refine zNX (λ h=> ?_) (λ h=> ?_)
 ·simp at h;simp [go_sem,zb1,h]
 ·simp at h;simp [go_sem];refine zNX (λ h2=> ?_) (λ h2=> ?_)
  ·simp at h2;simp [go_sem,zb1,h2,show ¬a<b by omega]
  ·simp at h2;simp [go_sem,zb1,show ¬b<a by omega,show ¬a<b by omega]
def zkZ:List Int->List Int->Int
 |x::a,y::b=>if x=y then zkZ a b else zb1 x y
 |a,b=>zb1 a.length b.length
theorem zvT (b:List Int):zkZ [] b=zb1 0 b.length:=by cases b<;>rfl
theorem ztB (a:List Int):zkZ a []=zb1 a.length 0:=by cases a<;>rfl
theorem zsp (a b:List Int) (ha:zkq a) (hb:zkq b):zav Tryz.prog 58 [zaG a,zaG b] (.int (zkZ a b)):=by
 refine pF Tryz.func58 ?_;unfold zkq at ha hb;simp [go_sem];refine zNW (zNY (α:=Nat) (λ j=>⟨[(0,zaG a),(1,zaG b),(5, .int j)], [],0⟩)
  (λ d j=>j+d=a.length∧j<=b.length∧zkZ a b=zkZ (a.drop j) (b.drop j)) ?_ a.length 0 ?_) ?_ ?_
 ·rintro d j ⟨i1,i2,i3⟩ hrec;simp [go_sem];refine zNX (λ hj=> ?_) (λ hj=> ?_)
  ·simp at hj;obtain ⟨hj1,hj2⟩:=hj;have hd1:a.drop j=nth a j::a.drop (j+1):=bv;have hd2:b.drop j=nth b j::b.drop (j+1):=bv;rw [hd1,hd2,zkZ] at i3;simp [go_sem];try ((with_reducible refine wZ ?_);(try simp [go_sem]))
   refine zOl hj1 λ _=> ?_;simp [go_sem,hj1];try ((with_reducible refine wZ ?_);(try simp [go_sem]))
   refine zOl hj2 λ _=> ?_;simp [go_sem,hj2];try ((with_reducible refine wZ ?_);(try simp [go_sem]))
   refine ztI.mk ah ?_;simp [go_sem];refine zNX (λ he=> ?_) (λ he=> ?_)
   ·simp at he;rw [if_neg he] at i3;simp [go_sem];try ((with_reducible refine wZ ?_);(try simp [go_sem]))
    refine zOl hj1 λ _=> ?_;simp [go_sem,hj1];try ((with_reducible refine wZ ?_);(try simp [go_sem]))
    refine zOl hj2 λ _=> ?_;simp [go_sem,hj2];try ((with_reducible refine wZ ?_);(try simp [go_sem]))
    refine dP (zkI _ _) ?_;simp [go_sem];try ((with_reducible refine wZ ?_);(try simp [go_sem]))
    refine ztI.mk ah ?_;simp [go_sem,i3]
   ·simp at he;rw [if_pos he] at i3;simp [go_sem];refine zOg aa λ _=> ?_;simp [go_sem];refine zNW (hrec (d - 1) aa (j+1) ⟨aa,aa,i3⟩) ?_ ac;simp [go_sem,zaf]
  ·simp at hj;simp [go_sem];refine aP (zkI _ _) ?_;have:zb1 a.length b.length=zkZ a b:=by
    grind [zb1,zkZ]
   simp [go_sem,this]
 ·simp
 ·simp [go_sem,zaf]
 ·simp
theorem zh7  (h:j<l.length):l.drop j=nth l j::l.drop (j+1):=bv
theorem zFK (a b:List Int) (ha:zkq a) (hb:zkq b):zav Tryz.prog 54 [zaG a,zaG b] (.v (.bool (decide (a=b)))):=by
 refine pF Tryz.func54 ?_;unfold zkq at ha hb;simp [go_sem];refine zNX (λ hl=> ?_) (λ hl=> ?_)
 ·simp at hl;have:decide (a=b)=false:=af;rw [this];simp [go_sem]
 ·simp at hl;simp [go_sem];refine zNW (zNY (α:=Nat) (λ j=>⟨[(0,zaG a),(1,zaG b),(5, .int j)], [],0⟩)
   (λ d j=>j+d=a.length∧((a=b)↔(a.drop j=b.drop j))) ?_ a.length 0 ?_) ?_ ?_
  ·rintro d j ⟨i1,i3⟩ hrec;simp [go_sem];refine zNX (λ hj=> ?_) (λ hj=> ?_)
   ·simp at hj;have hj2:j<b.length:=aa;rw [zh7 hj,zh7 hj2,List.cons.injEq] at i3;simp [go_sem];try ((with_reducible refine wZ ?_);(try simp [go_sem]))
    refine zOl hj λ _=> ?_;simp [go_sem,hj];try ((with_reducible refine wZ ?_);(try simp [go_sem]))
    refine zOl hj2 λ _=> ?_;simp [go_sem,hj2];try ((with_reducible refine wZ ?_);(try simp [go_sem]))
    refine ztI.mk ah ?_;simp [go_sem];refine zNX (λ he=> ?_) (λ he=> ?_)
    ·simp at he;have:decide (a=b)=false:=af;rw [this];simp [go_sem]
    ·simp at he;simp [go_sem];refine zOg aa λ _=> ?_;simp [go_sem];refine zNW (hrec (d - 1) aa (j+1) ⟨aa,i3.trans ⟨λ h=>h.2,λ h=>⟨he,h⟩⟩⟩) ?_ ac;simp [go_sem,zaf]
   ·simp at hj;rw [List.drop_eq_nil_of_le hj,List.drop_eq_nil_of_le aa] at i3;have:decide (a=b)=true:=af;rw [this];simp [go_sem]
  ·simp
  ·simp [go_sem,zaf]
  ·simp
def zbc (p:zae):Prop:=zkq p.at_∧zkq p.h0∧zkq p.h1
def zbp (p q:zae):Int:=
 if zkZ p.at_ q.at_≠0 then zkZ p.at_ q.at_ else if zkZ p.h0 q.h0≠0 then zkZ p.h0 q.h0 else if zkZ p.h1 q.h1≠0 then zkZ p.h1 q.h1 else if zb1 p.rights q.rights≠0 then zb1 p.rights q.rights else zb1 p.side q.side
theorem zcm (a b:zae) (ha:zbc a) (hb:zbc b):zav Tryz.prog 25 [.agg (zag a), .agg (zag b)] (.int (zbp a b)):=by
 refine pF Tryz.func25 ?_;obtain ⟨a1,a2,a3⟩:=ha;obtain ⟨b1,b2,b3⟩:=hb;simp [go_sem];try ((with_reducible refine wZ ?_);(try simp [go_sem]))
 refine dP (zsp _ _ a1 b1) ?_;simp [go_sem];try ((with_reducible refine wZ ?_);(try simp [go_sem]))
 refine dP (zsp _ _ a2 b2) ?_;simp [go_sem];try ((with_reducible refine wZ ?_);(try simp [go_sem]))
 refine dP (zsp _ _ a3 b3) ?_;simp [go_sem];try ((with_reducible refine wZ ?_);(try simp [go_sem]))
 refine dP (zkI _ _) ?_;simp [go_sem];try ((with_reducible refine wZ ?_);(try simp [go_sem]))
 refine dP (zkI _ _) ?_;simp [go_sem];try ((with_reducible refine wZ ?_);(try simp [go_sem]))
 refine ztI.mk ah ?_;simp [go_sem];generalize e1:zkZ a.at_ b.at_=x1;generalize e2:zkZ a.h0 b.h0=x2;generalize e3:zkZ a.h1 b.h1=x3;generalize e4:zb1 a.rights b.rights=x4;generalize e5:zb1 a.side b.side=x5;unfold zbp;rw [e1,e2,e3,e4,e5];refine zNZ ?_;simp [go_sem];refine zNX (λ h1=> ?_) (λ h1=> ?_)<;>simp at h1<;>simp [go_sem,h1];refine zNZ ?_;simp [go_sem];refine zNX (λ h2=> ?_) (λ h2=> ?_)<;>simp at h2<;>simp [go_sem,h1,h2];refine zNZ ?_;simp [go_sem];refine zNX (λ h3=> ?_) (λ h3=> ?_)<;>simp at h3<;>simp [go_sem,h1,h2,h3];refine zNZ ?_;simp [go_sem];refine zNX (λ h4=> ?_) (λ h4=> ?_)<;>simp at h4<;>simp [go_sem,h1,h2,h3,h4];refine zNZ ?_;simp [go_sem];refine zNX (λ h5=> ?_) (λ h5=> ?_)<;>simp at h5<;>simp [go_sem,h1,h2,h3,h4,h5];refine zNZ ?_;simp [go_sem]
def zIa (n:Nat) (p:zae):AV:= .agg [.sl (n+2) 1 1 0 p.at_.length, .sl (n+3) 1 1 0 p.h0.length, .sl (n+8) 1 1 0 p.h1.length, .int p.rights, .int p.side]
def zA3 (n:Nat) (p:zae):List (Nat×zcr):= [(n+2, .rows true 1 1 (p.at_.map zd2)),(n+3, .rows true 1 1 (p.h0.map zd2)),(n+8, .rows true 1 1 (p.h1.map zd2))]
attribute [go_sem] zIa zA3
theorem zgo (p:zae) (ha:zbc p):ztr Tryz.prog 110 [.agg (zag p)] (λ n=>zIa n p) (λ n=>zA3 n p) 9:=by
 refine ⟨aF Tryz.func110 ?_,λ n=>⟨?_, ?_⟩⟩
 ·obtain ⟨a1,a2,a3⟩:=ha;unfold zkq at a1 a2 a3;simp [go_sem];refine zOg aa λ _=> ?_;simp [go_sem];try ((with_reducible refine wZ ?_);(try simp [go_sem]))
  refine zOl aa λ _=> ?_;simp [go_sem];try ((with_reducible refine wZ ?_);(try simp [go_sem]))
  refine zOl aa λ _=> ?_;simp [go_sem];try ((with_reducible refine wZ ?_);(try simp [go_sem]))
  refine ztI.mk ah ?_;simp [go_sem,zaf]
 ·simp [go_sem]
 ·simp [go_sem]
theorem zzr (p:zae) (ha:zbc p):ztr Tryz.prog 65 [.agg (zag p)] (λ n=>zIa (n+2) p) (λ n=>zA3 (n+2) p) 11:=by
 refine ⟨aF Tryz.func65 ?_,λ n=>⟨?_, ?_⟩⟩
 ·simp [go_sem];refine zN1 (zgo p ha) ae ?_;simp [go_sem,zaf]
 ·simp [go_sem]
 ·simp [go_sem]
theorem zmr (l:List Int) (hl:zkq l):ztr Tryz.prog 198 [zaG l] (λ n=> .sl n 1 1 0 l.length) (λ n=> [(n, .rows true 1 1 (l.map zd2))]) 1:=by
 refine ⟨zOu (λ hne=>aF Tryz.func198 ?_)
  (λ he A c=>aF Tryz.func198 ?_),λ n=>⟨?_, ?_⟩⟩
 ·unfold zkq at hl;obtain ⟨x,l,rfl⟩:=List.exists_cons_of_ne_nil (show l≠ [] by grind);simp only [List.length_cons] at hl;simp [go_sem];refine zOg aa λ _=> ?_;simp [go_sem,zaf]
 ·obtain rfl:l= []:=by simp_all
  simp [go_sem];refine zNX (λ h=> ?_) (λ h=> ?_)
  ·simp at h;subst h;simp [go_sem,zaf]
  ·simp [go_sem,zaf]
 ·simp [go_sem]
 ·simp [go_sem]
def idxOf (p:Int->Bool) (l:List Int):Int:=match l.findIdx? p with|some i=>(i:Int)|none=> -1
variable {p:Int->Bool}
theorem zKt  (hj:j<l.length) (h:∀i,i<j->p (nth l i)=false) (hp:p (nth l j)=true):idxOf p l=j:=by
 have:l.findIdx? p=some j:=by
  grind [List.findIdx?_eq_some_iff_getElem,nth]
 simp [idxOf,this]
theorem zD5  (h:∀i,i<l.length->p (nth l i)=false):idxOf p l= -1:=by
 grind [List.getElem_of_mem,idxOf,nth]
theorem zHq :decide (0<=idxOf p l)=l.any p:=by
 grind [idxOf]
theorem ztp (l:List Int) (hl:zkq l) (f:FuncId) (first caps:List AV) (p:Int->Bool) (hp:∀x ∈ l,zav Tryz.prog f (first++ .int x::caps) (.v (.bool (p x)))) (hb:∀c ∈ first,Bel 0 c) (hb':∀c ∈ caps,Bel 0 c):
  zav Tryz.prog 192 [zaG l, .fn (.func f) first caps] (.int (idxOf p l)):=by
 refine pF Tryz.func192 ?_;unfold zkq at hl;simp [go_sem];refine zNW (zNY (α:=Nat) (λ j=>⟨[(0,zaG l),(1, .fn (.func f) first caps),(7, .int l.length),(8, .int j)], [],0⟩)
  (λ d j=>j+d=l.length∧(∀i<j,p (nth l i)=false)) ?_ l.length 0 ?_) ?_ ?_
 ·rintro d j ⟨i1,i2⟩ hrec;simp [go_sem];refine zNX (λ hj=> ?_) (λ hj=> ?_)
  ·simp at hj;simp [go_sem];refine zOg hj λ _=> ?_;simp [go_sem,hj];refine zN0 (hp _ (zah hj)) (λ c hc=>by
    rcases List.mem_append.1 hc with h|h
    ·grind
    ·rcases List.mem_cons.1 h with rfl|h
     ·exact .v _
     grind) ?_
   simp [go_sem];refine zNX (λ h=> ?_) (λ h=> ?_)
   ·simp [go_sem,zKt hj i2 h]
   ·simp [go_sem];refine zOg aa λ _=> ?_;simp [go_sem];refine zNW (hrec (d - 1) aa (j+1) ⟨aa,λ i hi=> ?_⟩) ?_ ac
    ·grind
    ·simp [go_sem,zaf];grind
  ·simp at hj;simp [go_sem,zD5 λ i hi=>i2 i aa]
 ·simp
 ·simp [go_sem,zaf];grind
 ·simp
theorem zjE (l:List Int) (hl:zkq l) (f:FuncId) (first caps:List AV) (p:Int->Bool) (hp:∀x ∈ l,zav Tryz.prog f (first++ .int x::caps) (.v (.bool (p x)))) (hb:∀c ∈ first,Bel 0 c) (hb':∀c ∈ caps,Bel 0 c):
  zav Tryz.prog 140 [zaG l, .fn (.func f) first caps] (.v (.bool (l.any p))):=by
 refine pF Tryz.func140 ?_;simp [go_sem];refine zN0 (ztp l hl f first caps p hp hb hb') (by simp [go_sem];grind) ?_;simp [go_sem,zHq]
theorem zn1 {α:Type}{f:α->List AV}{l:List α}{sz:Nat} (h:∀x,∀c ∈ f x,Bel n c):Bel n (.lst sz (l.map f)):=by
 refine .lst λ r hr c hc=> ?_;grind
theorem zGo {l:List zhn}:Bel n (.lst 3 (l.map zbq))=True:=eq_true (zn1 λ k c hc=>by
 simp only [zbq,List.mem_cons,List.mem_nil_iff,or_false] at hc;rcases hc with rfl|rfl|rfl
 ·exact .v _
 ·refine zn1 λ p c hc=> ?_;simp only [List.mem_cons,List.mem_nil_iff,or_false] at hc;subst hc;exact zn1 λ s c hc=>by
   simp only [zbT,List.mem_cons,List.mem_nil_iff,or_false] at hc;rcases hc with rfl|rfl<;>exact .v _
 ·exact .v _)
theorem zz8 {l:List (Int×Int×Int×Int)}:Bel n (.lst 4 (l.map zaZ))=True:=eq_true (zn1 λ k c hc=>by
 simp only [zaZ,List.mem_cons,List.mem_nil_iff,or_false] at hc;rcases hc with rfl|rfl|rfl|rfl<;>exact .v _)
theorem zME {l:List (List Int)}:Bel n (.lst 1 (l.map λ l=> [.lst 1 (l.map zd2)]))=True:=eq_true (zn1 λ k c hc=>by
 grind [zBQ])
attribute [go_sem high] zGo zz8 zME
def zup (g:zaa) (x:Int):Bool:=decide (0<=x) && decide (x<=2 * g.kinds.length)
def zmJ (g:zaa):Prop:=g.kinds.length<=1000000
theorem zxI (g:zaa) (hg:zmJ g) (x:Int):zav Tryz.prog 251 [.agg (zad g), .int x] (.v (.bool (zup g x))):=by
 refine pF Tryz.func251 ?_;unfold zmJ at hg;simp [go_sem];refine zOg aa λ _=> ?_;simp [go_sem,zup]
theorem zsH (g:zaa) (hg:zmJ g) (x:Int):zav Tryz.prog 252 [.int x, .fp [.fn (.func 251) [.agg (zad g)] []]] (.v (.bool !zup g x)):=by
 refine pF Tryz.func252 ?_;simp [go_sem];refine aP (zxI g hg x) ?_;simp [go_sem]
def zed:List Int->List zhn->Bool
 |x::l,k::ks=>decide (0<=x) && decide (x<=8) && (!decide (0<x)||k.keep) && zed l ks
 | _, _=>true
def zil (g:zaa) (l:List Int):Bool:=decide (l.length=g.kinds.length) && zed l g.kinds
theorem zyk (g:zaa) (hg:zmJ g) (l:List Int) (hl:zkq l):zav Tryz.prog 253 [.agg (zad g),zaG l] (.v (.bool (zil g l))):=by
 refine pF Tryz.func253 ?_;unfold zmJ at hg;unfold zkq at hl;simp [go_sem];refine zNX (λ hn=> ?_) (λ hn=> ?_)
 ·simp at hn;have hn':l.length≠g.kinds.length:=aa;simp [go_sem,zil,hn']
 ·simp at hn;have hn':l.length=g.kinds.length:=aa;simp [go_sem];have hk:zil g l=zed l g.kinds:=by simp [zil,hn']
  rw [hk];refine zNW (zNY (α:=Nat) (λ j=>⟨[(2, .ref 0 0 9 0 0),(14,zaG l),(15, .int l.length),(16, .int j)], [(0, .rows true 0 9 [zad g])],1⟩)
   (λ d j=>j+d=l.length∧zed l g.kinds=zed (l.drop j) (g.kinds.drop j)) ?_ l.length 0 ?_) ?_ ?_
  ·rintro d j ⟨i1,i2⟩ hrec;simp [go_sem];refine zNX (λ hj=> ?_) (λ hj=> ?_)
   ·simp at hj;have hj2:j<g.kinds.length:=aa;rw [zh7 hj,show g.kinds.drop j=nth g.kinds j::g.kinds.drop (j+1) by grind [List.drop_eq_getElem_cons,nth],zed] at i2;simp [go_sem];refine zOg hj λ _=> ?_;simp [go_sem,hj];refine zOg af λ _=> ?_;simp [go_sem,hj2];refine zOg af λ _=> ?_;simp [go_sem];refine zNX (λ hb=> ?_) (λ hb=> ?_)
    ·have:zed l g.kinds=false:=by
      grind
     simp [go_sem,this]
    ·have:zed l g.kinds=zed (List.drop (j+1) l) (List.drop (j+1) g.kinds):=by
      grind
     simp [go_sem];refine zOg aa λ _=> ?_;simp [go_sem];refine zNW (hrec (d - 1) aa (j+1) ⟨aa,this⟩) ?_ ac;simp [go_sem,zaf]
   ·simp at hj;rw [List.drop_eq_nil_of_le hj] at i2;have:zed l g.kinds=true:=by rw [i2];rfl
    simp [go_sem,this]
  ·simp
  ·simp [go_sem,zaf]
  ·simp
def ztZ (g:zaa) (p:zae):Bool:=
 decide ((p.at_.length:Int)=g.cells) && !(p.at_.any λ x=> !zup g x) && zil g p.h0 && zil g p.h1 && decide (0<=p.rights) && decide (p.rights<2 ^ g.rights.toNat) && (decide (p.side=0)||decide (p.side=1))
def FitsR (g:zaa):Prop:=0<=g.rights∧g.rights<=60
theorem zub (g:zaa) (hg:zmJ g) (hr:FitsR g) (p:zae) (hp:zbc p):zav Tryz.prog 210 [.agg (zad g), .agg (zag p)] (.v (.bool (ztZ g p))):=by
 refine pF Tryz.func210 ?_;obtain ⟨p1,p2,p3⟩:=hp;obtain ⟨r1,r2⟩:=hr;simp [go_sem];try ((with_reducible refine wZ ?_);(try simp [go_sem]))
 refine zOB [zaG p.at_, .fn (.func 252) [] [.fp [.fn (.func 251) [.agg (zad g)] []]]] (.v (.bool (p.at_.any λ x=> !zup g x))) [3]
  (λ _=>zjE _ p1 _ [] _ _ (λ x _=>zsH g hg x) ac ae) (.v _) (λ h₁ hS=> ?_) ae ?_
 ·have:=hS 3 ac;simp [go_sem] at this;simp only [List.nil_append,List.append_nil,zaG];exact .cons (.refl _) (.cons (.fn .nil (.cons (.frzP this.symm ac ac br (by simp [nth,go_sem])) .nil)) .nil)
 simp [go_sem];try ((with_reducible refine wZ ?_);(try simp [go_sem]))
 refine zN2 _ (λ _=>zyk g hg p.h0 p2) ae ?_;simp [go_sem];try ((with_reducible refine wZ ?_);(try simp [go_sem]))
 refine zN2 _ (λ _=>zyk g hg p.h1 p3) ae ?_;simp [go_sem];have hpow:(0:Int)<=2 ^ g.rights.toNat∧(2:Int) ^ g.rights.toNat<=1152921504606846976:=by
  have h1:g.rights.toNat<=60:=aa;have h2:(2:Int) ^ g.rights.toNat<=2 ^ 60:=by have:=Nat.pow_le_pow_right (n:=2) aa h1;grind
  grind
 try ((with_reducible refine wZ ?_);(try simp [go_sem]))
 refine zOl af λ _=> ?_;simp [go_sem];try ((with_reducible refine wZ ?_);(try simp [go_sem]))
 refine zOl (λ a1 a2 a3 a4 a5 a6=>⟨⟨⟨⟨⟨⟨a1,a2⟩,a3⟩,a4⟩,a5⟩,a6⟩,λ a7=>⟨⟨⟨⟨⟨⟨a1,a2⟩,a3⟩,a4⟩,a5⟩,a6⟩,a7⟩⟩) λ _=> ?_;simp [go_sem];try ((with_reducible refine wZ ?_);(try simp [go_sem]))
 refine ztI.mk ah ?_;simp [go_sem];grind [zN9,ztZ]
theorem zaJ {h h':zay}{n:Nat}:∀ {xs xs' ys ys':List (List AV)},zaM h h' n xs xs'->zaM h h' n ys ys'->zaM h h' n (xs++ys) (xs'++ys')
 | [], _, _, _, .refl _,h2=>h2
 | [], _, _, _, .nil,h2=>h2
 |x::xs, _, _, _, .refl _,h2=> .cons (.refl _ _ _ _) (zaJ (.refl xs) h2)
 | _:: _, _, _, _, .cons a b,h2=> .cons a (zaJ b h2)
theorem zN6 {h h':zay}{xs ys:List (List AV)} (e:xs=ys):zaM h h' n xs ys:=e▸ .refl _
def zkt:Option zcr->Option zcr
 |some (.rows _ g sz rs)=>some (.rows false g sz rs)
 |none=>none
def zhF (h:zay) (os:List Nat):zay:=λ o=>if os.contains o then zkt (h o) else h o
theorem zDY (h:zay) (os:List Nat) (o:Nat):zhF h os o=if os.contains o then zkt (h o) else h o:=rfl
theorem zHl (mt:Bool) (g sz:Nat) (rs:List (List AV)):zkt (some (.rows mt g sz rs))=some (.rows false g sz rs):=rfl
theorem zi2 (h:zay) (os:List Nat):Frz h (zhF h os):=by
 intro o;unfold zhF;split
 ·cases ho:h o with
  |none=>exact .inl rfl
  |some x=>
   cases x with
   |rows mt g sz rs=>
    cases mt with
    |true=>grind [zkt]
    |false=>exact .inl rfl
 grind
theorem zN3 {P:Program}{f:FuncId}{args args':List AV}{r:AV}{h:zay}{K:zbH} (os:List Nat) (hp:zav P f args' r) (hle:zaL h (zhF h os) n args args') (hb:∀c ∈ args',Bel 0 c)
  (hk:K r (zhF h os) n):zaj P f args h n K:=zaj.pure (zhF h os) hp (zi2 h os) hle hb hk
attribute [go_sem] zDY zHl
def zAn (n:Int):List AV:= [.v (.int .u8 n)]
def zDL (l:List Int):AV:= .lst 1 (l.map zAn)
theorem bel_U :(∀r ∈ l.map zAn,∀c ∈ r,Bel n c)=True:=by
 refine eq_true ?_;intro r hr c hc;obtain ⟨x, _,rfl⟩:=List.mem_map.1 hr;simp only [zAn,List.mem_singleton] at hc;subst hc;exact .v _
theorem bel_Us :Bel n (.lst 1 (l.map zAn))=True:=by rw [zel,bel_U]
attribute [go_sem] zAn zDL
attribute [go_sem high] bel_Us
theorem zsX {g:zaa}{p:zae}:ztZ g p=true↔((p.at_.length:Int)=g.cells∧(∀x ∈ p.at_,0<=x∧x<=2 * g.kinds.length)∧zil g p.h0=true∧zil g p.h1=true∧0<=p.rights∧p.rights<2 ^ g.rights.toNat∧(p.side=0∨p.side=1)):=by
 grind [ztZ,zup]
theorem zyL {α:Type} [Inhabited α] {l:List α}{c:Nat}{x:α} (h:c<l.length):nth (l.set c x) c=x:=by simp [nth,h]
attribute [go_sem] zyL
theorem zaV {α:Type} [Inhabited α] {l:List α} (h:j<l.length):l.drop j=nth l j::l.drop (j+1):=bv
theorem zuG (g:zaa) (hg:zmJ g) (l:List Int) (hl:l.length<=9223372036854775807):zav Tryz.prog 217 [.agg (zad g),zaG l] (.v (.bool (zil g l))):=by
 refine pF Tryz.func217 ?_;unfold zmJ at hg;refine J0 ?_;refine zNX (λ hn=> ?_) (λ hn=> ?_)<;>simp at hn
 ·have e:zil g l=false:=by grind [zil]
  rw [e];exact K0
 ·refine J0 ?_;have e:zil g l=zed l g.kinds:=by grind [zil]
  rw [e];refine zNW (zNY (α:=Nat) (λ j=>⟨[(1,zaG l),(2, .ref 0 0 9 0 0),(5, .int j)], [(0, .rows true 0 9 [zad g])],1⟩)
   (λ d j=>j+d=l.length∧zed l g.kinds=zed (l.drop j) (g.kinds.drop j)) ?_ l.length 0 ?_) ?_ ?_
  ·rintro d j ⟨i1,i2⟩ hrec;refine J0 ?_;refine zNX (λ hj=> ?_) (λ hj=> ?_)<;>simp at hj
   ·have hjk:j<g.kinds.length:=by omega
    rw [zaV hj,zaV hjk,zed] at i2;generalize hR:zed (List.drop (j+1) l) (List.drop (j+1) g.kinds)=R at *;cases hkp:(nth g.kinds j).keep
    ·rw [hkp] at i2;refine J3 hj hjk hkp ?_;refine zNX (λ hb=> ?_) (λ hb=> ?_)<;>simp at hb
     ·have e2:zed l g.kinds=false:=by grind
      rw [e2];exact K0
     ·have e2:zed l g.kinds=R:=by
       grind
      refine J0 ?_;refine zNW (hrec (d - 1) aa (j+1) ⟨aa,af⟩) ?_ ac;simp [go_sem,zaf]
    ·rw [hkp] at i2;refine J3 hj hjk hkp ?_;refine zNX (λ hb=> ?_) (λ hb=> ?_)<;>simp at hb
     ·have e2:zed l g.kinds=false:=by grind
      rw [e2];exact K0
     ·have e2:zed l g.kinds=R:=by
       grind
      refine J0 ?_;refine zNW (hrec (d - 1) aa (j+1) ⟨aa,af⟩) ?_ ac;simp [go_sem,zaf]
   ·rw [List.drop_eq_nil_of_le hj,show ∀ks,zed [] ks=true from λ ks=>by simp [zed]] at i2;rw [i2];exact K0
  ·grind
  ·simp [go_sem,zaf]
  ·simp
theorem zkx (g:zaa) (hg:zmJ g) (hr:FitsR g) (p:zae) (hp:zbc p):zav Tryz.prog 163 [.agg (zad g), .agg (zag p)] (.v (.bool (ztZ g p))):=by
 refine pF Tryz.func163 ?_;obtain ⟨p1,p2,p3⟩:=hp;obtain ⟨r1,r2⟩:=hr;have hpow:(0:Int)<=2 ^ g.rights.toNat∧(2:Int) ^ g.rights.toNat<=1152921504606846976:=by
  have h1:g.rights.toNat<=60:=aa;have h2:(2:Int) ^ g.rights.toNat<=2 ^ 60:=by have:=Nat.pow_le_pow_right (n:=2) aa h1;grind
  grind
 unfold zmJ at hg;refine J0 ?_;refine zN2 _ (λ _=>zuG g hg p.h0 (by grind [zkq])) ae ?_;refine J0 ?_;refine zN2 _ (λ _=>zuG g hg p.h1 (by grind [zkq])) ae ?_;generalize hpw:(2:Int) ^ g.rights.toNat=pw at *;refine J1 hpw ?_;unfold zkq at p1;refine zNX (λ hv=> ?_) (λ hv=> ?_)<;>simp at hv
 ·have e:ztZ g p=false:=by
   grind [ztZ]
  rw [e];exact K0
 ·have hn:∀x:Int,(∀y ∈ p.at_,0<=y∧y<=2 * g.kinds.length)->ztZ g p=true:=λ _ h=>by
   grind [zsX]
  refine J0 ?_;refine zNW (zNY (α:=Nat) (λ j=>⟨[(2, .ref 0 0 9 0 0),(3, .ref 1 0 5 0 0),(5, .int j)], [(0, .rows true 0 9 [zad g]),(1, .rows true 0 5 [zag p])],2⟩)
   (λ d j=>j+d=p.at_.length∧∀i,i<j->0<=nth p.at_ i∧nth p.at_ i<=2 * g.kinds.length) ?_ p.at_.length 0 ?_) ?_ ?_
  ·rintro d j ⟨i1,i2⟩ hrec;refine J0 ?_;refine zNX (λ hj=> ?_) (λ hj=> ?_)<;>simp at hj
   ·refine J1 hj ?_;refine zNX (λ hb=> ?_) (λ hb=> ?_)<;>simp at hb
    ·have e:ztZ g p=false:=by
      grind [zsX,nth]
     rw [e];exact K0
    ·refine J0 ?_;refine zNW (hrec (d - 1) aa (j+1) ⟨aa,λ i hi=> ?_⟩) ?_ ac
     ·grind
     ·simp [go_sem,zaf]
   ·have e:=hn 0 (λ y hy=>by
     obtain ⟨i,hi,rfl⟩:=List.getElem_of_mem hy;rw [<- zcp _ _ hi];grind)
    rw [e];exact K0
  ·grind
  ·simp [go_sem,zaf]
  ·simp
def zaC (l:List zae):AV:= .lst 5 (l.map zag)
attribute [go_sem] zaC
instance:Inhabited zae:=⟨⟨[], [], [],0,0⟩⟩
theorem zMB {p:zae}:∀c ∈ zag p,Bel n c:=ae
theorem zDq {l:List zae}:(∀r ∈ l.map zag,∀c ∈ r,Bel n c)=True:=by
 grind [zMB]
theorem zGf {l:List zae}:Bel n (.lst 5 (l.map zag))=True:=by rw [zel,zDq]
attribute [go_sem high] zGf
structure zbg where
 cells:Int
 next:List (List Int)
 turn:List Int
 deriving DecidableEq
def zgT (b:zbg):List AV:= [.int b.cells,zcU b.next,zaG b.turn]
attribute [go_sem] zgT
def zaa.board (g:zaa):zbg:=⟨g.cells,g.next,g.turn⟩
structure zbE (b:zbg):Prop where
 tl:b.turn.length=b.next.length
 tv:∀t ∈ b.turn,0<=t∧t<b.next.length
 nl:∀l ∈ b.next,(l.length:Int)=b.cells
 nv:∀l ∈ b.next,∀x ∈ l, -1<=x∧x<b.cells
 c0:0<=b.cells
 c1:b.cells<=1048576
 n1:b.next.length<=1048576
def toB (b:zbg) (side d c:Int):Int:=
 if side<0∨1<side∨d<0∨(b.next.length:Int)<=d∨c<0∨b.cells<=c then -1 else nth (nth b.next (if side=1 then (nth b.turn d.toNat) else d).toNat) c.toNat
theorem zIV {b:zbg} (hb:zbE b) (side d c:Int): -1<=toB b side d c∧toB b side d c<b.cells∨toB b side d c= -1:=by
 unfold toB;split
 ·grind
 ·rename_i h;left;have hd:(if side=1 then (nth b.turn d.toNat) else d).toNat<b.next.length:=by
   split
   ·have:=hb.tv _ (zah (l:=b.turn) (i:=d.toNat) (by have:=hb.tl;omega));omega
   ·omega
  have hl:=hb.nl _ (zah hd);exact hb.nv _ (zah hd) _ (zah aa)
theorem zrd (b:zbg) (hb:zbE b) (side d c:Int):zav Tryz.prog 241 [.agg (zgT b), .int side, .int d, .int c] (.int (toB b side d c)):=by
 refine pF Tryz.func241 ?_;obtain ⟨tl,tv,nl,nv,c0,c1,n1⟩:=hb;refine J0 ?_;refine zNX (λ hs=> ?_) (λ hs=> ?_)<;>simp at hs
 ·have e:toB b side d c= -1:=by grind [toB]
  rw [e];exact K0
 ·have hdt:d.toNat<b.next.length:=by omega
  have hdu:d.toNat<b.turn.length:=aa;have e:toB b side d c=nth (nth b.next (if side=1 then (nth b.turn d.toNat) else d).toNat) c.toNat:=by grind [toB]
  refine J0 ?_;refine zNX (λ h1=> ?_) (λ h1=> ?_)<;>simp at h1
  ·rw [if_pos h1] at e;have ht:=tv _ (zah hdu);have hn:(nth b.turn d.toNat).toNat<b.next.length:=aa;have hl:=nl _ (zah hn);have hc:c.toNat<(nth b.next (nth b.turn d.toNat).toNat).length:=aa;rw [e];exact K3 hdu hn hc
  ·rw [if_neg h1] at e;have hl:=nl _ (zah hdt);have hc:c.toNat<(nth b.next d.toNat).length:=aa;rw [e];exact K2 hdt hc
theorem zqy (b:zbg) (hb:zbE b) (side d c:Int):zav Tryz.prog 298 [.agg (zgT b), .int side, .int d, .int c] (.int (toB b side d c)):=by
 refine pF Tryz.func298 ?_;obtain ⟨tl,tv,nl,nv,c0,c1,n1⟩:=hb;refine J0 ?_;refine zNX (λ hs=> ?_) (λ hs=> ?_)<;>simp at hs
 ·have e:toB b side d c= -1:=by grind [toB]
  rw [e];exact K0
 ·have hdt:d.toNat<b.next.length:=by omega
  have hdu:d.toNat<b.turn.length:=aa;have e:toB b side d c=nth (nth b.next (if side=1 then (nth b.turn d.toNat) else d).toNat) c.toNat:=by grind [toB]
  refine J0 ?_;refine zNX (λ h1=> ?_) (λ h1=> ?_)<;>simp at h1
  ·rw [if_pos h1] at e;have ht:=tv _ (zah hdu);have hn:(nth b.turn d.toNat).toNat<b.next.length:=aa;have hl:=nl _ (zah hn);have hc:c.toNat<(nth b.next (nth b.turn d.toNat).toNat).length:=aa;rw [e];exact K3 hdu hn hc
  ·rw [if_neg h1] at e;have hl:=nl _ (zah hdt);have hc:c.toNat<(nth b.next d.toNat).length:=aa;rw [e];exact K2 hdt hc
theorem zC8 (l:List Int) (n:Int) (hl:l.length<=1099511627776):zav Tryz.prog 279 [zaG l, .int n] (.v (.bool (decide (n ∈ l)))):=by
 refine pF Tryz.func279 ?_;generalize hr:decide (n ∈ l)=res;refine J0 ?_;refine zNW (zNY (α:=Nat) (λ j=>⟨[(0,zaG l),(1, .int n),(5, .int j)], [],0⟩)
  (λ d j=>j+d=l.length∧res=decide (n ∈ l.drop j)) ?_ l.length 0 ?_) ?_ ?_
 ·rintro d j ⟨i1,i2⟩ hrec;refine J0 ?_;refine zNX (λ hj=> ?_) (λ hj=> ?_)<;>simp at hj
  ·rw [zh7 hj] at i2;refine J1 hj ?_;refine zNX (λ he=> ?_) (λ he=> ?_)<;>simp at he
   ·have e:res=true:=by grind
    rw [e];exact K0
   ·have e:res=decide (n ∈ l.drop (j+1)):=by grind
    refine J0 ?_;refine zNW (hrec (d - 1) aa (j+1) ⟨aa,e⟩) ?_ ac;simp [go_sem,zaf]
  ·have e:res=false:=by grind [List.drop_eq_nil_of_le]
   rw [e];exact K0
 ·grind
 ·simp [go_sem,zaf]
 ·simp
def zdo (l:List Int) (n:Int):Int:=match l.findIdx? (·==n) with|some i=>(i:Int)|none=> -1
theorem zHr {n:Int} (hj:j<l.length) (h:∀i,i<j->nth l i≠n) (hp:nth l j=n):zdo l n=j:=by
 have:l.findIdx? (·==n)=some j:=by
  grind [List.findIdx?_eq_some_iff_getElem,zcp]
 simp [zdo,this]
theorem zAC {n:Int} (h:∀i,i<l.length->nth l i≠n):zdo l n= -1:=by
 grind [List.getElem_of_mem,zdo,nth]
theorem zD6 {n:Int}:decide (0<=zdo l n)=decide (n ∈ l):=by
 grind [zdo]
theorem zoZ (l:List Int) (n:Int) (hl:l.length<=1099511627776):zav Tryz.prog 98 [zaG l, .int n] (.int (zdo l n)):=by
 refine pF Tryz.func98 ?_;refine J0 ?_;refine zNW (zNY (α:=Nat) (λ j=>⟨[(0,zaG l),(1, .int n),(7, .int l.length),(8, .int j)], [],0⟩)
  (λ d j=>j+d=l.length∧∀i,i<j->nth l i≠n) ?_ l.length 0 ?_) ?_ ?_
 ·rintro d j ⟨i1,i2⟩ hrec;refine J0 ?_;refine zNX (λ hj=> ?_) (λ hj=> ?_)<;>simp at hj
  ·refine J1 hj ?_;refine zNX (λ he=> ?_) (λ he=> ?_)<;>simp at he
   ·rw [zHr hj i2 he.symm];exact K0
   ·refine J0 ?_;refine zNW (hrec (d - 1) aa (j+1) ⟨aa,λ i hi=> ?_⟩) ?_ ac
    ·grind
    ·simp [go_sem,zaf]
  ·rw [zAC (λ i hi=>i2 i aa)];exact K0
 ·grind
 ·simp [go_sem,zaf]
 ·simp
theorem zvu (l:List Int) (n:Int) (hl:l.length<=1099511627776):zav Tryz.prog 326 [zaG l, .int n] (.v (.bool (decide (n ∈ l)))):=by
 refine pF Tryz.func326 ?_;refine J0 ?_;refine aP (zoZ l n hl) ?_;rw [<- zD6];exact K0
def ziu (b:zbg) (side d c:Int):Nat->Int->List Int->List Int
 |0, _,seen=>seen
 |f+1,x,seen=>if 0<=x∧x≠c∧¬x ∈ seen then ziu b side d c f (toB b side d x) (seen++ [x]) else seen
def zor (b:zbg) (side d c:Int):List Int:=ziu b side d c (b.cells.toNat+1) (toB b side d c) []
theorem zmF:∀ (n:Nat) (l:List Int),l.Nodup->(∀x ∈ l,0<=x∧x<n)->l.length<=n
 |0,l, _,h=>by
  cases l with
  |nil=>simp
  |cons x l=>have:=h x ac;omega
 |n+1,l,hn,h=>by
  by_cases hm:(n:Int) ∈ l
  ·have:=zmF n (l.erase n) (hn.erase _) (λ x hx=>by
    have h1:=(hn.mem_erase_iff).1 hx;have:=h x h1.2;have:=h1.1;omega)
   rw [List.length_erase_of_mem hm] at this;omega
  ·have:=zmF n l hn (λ x hx=>by
    have:=h x hx;have:x≠n:=λ e=>hm (e▸hx);omega)
   omega
theorem ziJ {b:zbg} (hb:zbE b) (side d c:Int):toB b side d c<b.cells:=by
 have:=hb.c0;rcases zIV hb side d c with h|h<;>omega
theorem zzD (b:zbg) (hb:zbE b) (side d c:Int):zav Tryz.prog 243 [.agg (zgT b), .int side, .int d, .int c] (zaG (zor b side d c)):=by
 refine pF Tryz.func243 ?_;have hbl:∀n,(∀c' ∈ zgT b,Bel n c')=True:=λ n=>ae;have hel:(zgT b).length=3:=rfl;have hT:∀x,zav Tryz.prog 241 [.agg (zgT b), .int side, .int d, .int x] (.int (toB b side d x)):=λ x=>zrd b hb side d x;obtain ⟨eb,heb⟩:∃eb,eb=zgT b:=⟨_,rfl⟩
 rw [<- heb] at hbl hel hT ⊢;have hc1:=hb.c1;have hc0:=hb.c0;refine J1 hel ?_;refine zN0 (hT c) aG ?_;refine J1 hel ?_;refine zNW (zNY (α:=Int×List Int) (λ a=>⟨[(1, .int side),(2, .int d),(3, .int c),(4, .ref 0 0 3 0 0),(9, .sl 1 a.2.length 1 0 a.2.length),(10, .int a.1)],
   [(0, .rows true 0 3 [eb]),(1, .rows true a.2.length 1 (a.2.map zd2))],2⟩)
  (λ f a=>f+a.2.length=b.cells.toNat+1∧a.1<b.cells∧a.2.Nodup∧(∀y ∈ a.2,0<=y∧y<b.cells)∧zor b side d c=ziu b side d c f a.1 a.2) ?_ (b.cells.toNat+1) (toB b side d c, []) ?_) ?_ ?_
 ·rintro f ⟨x,seen⟩ ⟨i1,i2,i3,i4,i5⟩ hrec;simp only at i1 i2 i3 i4 i5;have hsl:seen.length<=b.cells.toNat:=zmF _ _ i3 (λ y hy=>by grind);obtain ⟨f,rfl⟩:∃f',f=f'+1:=⟨f - 1,aa⟩
  rw [ziu] at i5;refine J1 hel ?_;refine zOe [zaG seen, .int x] (.v (.bool (decide (x ∈ seen)))) (λ _=>zC8 seen x aa) (.v _) ?_ ae ?_
  ·refine zaL.cons ?_ (zaL.cons (.refl _) zaL.nil);refine LeV.frz rfl ?_ ?_ (zN6 ?_)<;>simp [noH,List.take_of_length_le]
  ·refine J1 hel ?_;refine zNX (λ hx=> ?_) (λ hx=> ?_)<;>simp at hx
   ·rw [if_pos af] at i5;refine J1 hel ?_;refine zN0 (hT x) aG ?_;refine J1 hel ?_;refine zNW (hrec f aa (toB b side d x,seen++ [x]) ⟨af,ziJ hb _ _ _, ?_, ?_,i5⟩) ?_ ac
    ·grind
    ·grind
    ·simp [go_sem,zaf,hbl];(first|done|exact blX)
   ·rw [if_neg af] at i5;rw [i5];refine J1 hel ?_;exact frX
 ·exact ⟨ac,ziJ hb _ _ _,ac,ac,rfl⟩
 ·simp [go_sem,zaf,hbl]
 ·simp
def zei (b:zbg) (side d:Int):Nat->Int->List Int
 |0, _=> []
 |k+1,x=>if 0<=x then x::zei b side d k (toB b side d x) else []
def zcQ (b:zbg) (side d:Int):Nat->Int->Nat
 |0,x=>if 0<=x then 1 else 0
 |k+1,x=>if 0<=x then zcQ b side d k (toB b side d x) else 0
theorem ztc {b:zbg}{side d:Int}:∀ {k:Nat}{x:Int},zcQ b side d k x≠2
 |0,x=>by grind [zcQ]
 |k+1,x=>by unfold zcQ;split;exact ztc;omega
theorem zFh (b:zbg) (hb:zbE b) (side d c:Int) (k:Nat):zJs Tryz.prog 335 [.fp (zgT b), .fp [.int side], .fp [.int d], .fp [.int c]]
  (zcQ b side d k (toB b side d c)) ((zei b side d k (toB b side d c)).map zd2):=by
 refine zOr ah Tryz.func335 rfl rfl (Nat.le_of_ble_eq_true rfl) ah (λ l=> ?_) (hm2:=ztc);have hbl:∀n,(∀c' ∈ zgT b,Bel n c')=True:=λ n=>ae;have hel:(zgT b).length=3:=rfl;have hT:∀x,zav Tryz.prog 298 [.agg (zgT b), .int side, .int d, .int x] (.int (toB b side d x)):=λ x=>zqy b hb side d x;have hg:∀ (n k:Nat) (x:Int),Bel n (zcN l (zcQ b side d k x) ((zei b side d k x).map zd2)):=λ n k x=>by
  simp_all [zcN,zFC,zzo,zL5,zel,zd2]
 obtain ⟨eb,heb⟩:∃eb,eb=zgT b:=⟨_,rfl⟩
 rw [<- heb] at hbl hel hT ⊢;have hte:eb.take 3=eb:=List.take_of_length_le aa;refine Jg2 hel hte ?_;refine zN0 (hT c) aG ?_;refine Jg2 hel hte ?_;refine zNW (zNY (α:=Nat×Int) (λ a=>⟨[(0, .fn (.yield l) [] []),(1, .fp eb),(2, .fp [.int side]),(3, .fp [.int d]),(6, .int a.2),(1000000007,zcN l (zcQ b side d a.1 a.2) ((zei b side d a.1 a.2).map zd2))], [],0⟩)
  (λ f a=>f=a.1∧zcQ b side d a.1 a.2=zcQ b side d k (toB b side d c)) ?_ k (k,toB b side d c) ?_) ?_ ?_
 ·rintro f ⟨k',x⟩ ⟨i1,i2⟩ hrec;simp only at i1 i2;subst i1;refine Jg2 hel hte ?_;by_cases hx:0<=x
  ·simp only [hx,decide_true];cases f with
   |zero=>exact aGC.exh (by simp [upd,GH,zcQ,zei,hx])
   |succ f=>
    refine aGC.yld (more:=zcQ b side d f (toB b side d x)) (xs:= [.int x]) (rs:=(zei b side d f (toB b side d x)).map zd2) noH (by simp [upd,GH,zcQ,zei,hx,zd2]) (.refl _) (.refl _ _ _ _) ae ?_ ?_
    ·refine Jg2 hel hte ?_;refine zN0 (hT x) aG ?_;refine Jg2 hel hte ?_;rw [zcQ,if_pos hx] at i2;refine zNW (hrec f aa (f,toB b side d x) ⟨rfl,i2⟩) ?_ ac;simp [go_sem,zaf,hbl,hg,GH]
    ·exact Kg2 hel hte
  ·have hm:zcQ b side d f x=0:=by cases f<;>simp [zcQ,hx]
   have hr:zei b side d f x= []:=by cases f<;>simp [zei,hx]
   simp only [hx,decide_false];refine aGC.skip (.v (.bool false)) ?_;refine Jg2 hel hte ?_;grind
 ·grind
 ·simp [go_sem,zaf,hbl,hg,GH]
 ·simp
def zzb (n:Nat):AV:= .fn (.func 335) [] [.ref n 0 3 0 0, .ref (n+1) 0 1 0 0, .ref (n+2) 0 1 0 0, .ref (n+3) 0 1 0 0]
def zza (b:zbg) (side d c:Int) (n:Nat):List (Nat×zcr):= [(n, .rows true 0 3 [zgT b]),(n+1, .rows true 0 1 [[.int side]]),(n+2, .rows true 0 1 [[.int d]]),(n+3, .rows true 0 1 [[.int c]])]
theorem zFi (b:zbg) (side d c:Int):ztr Tryz.prog 325 [.agg (zgT b), .int side, .int d, .int c] zzb (zza b side d c) 4:=by
 refine ⟨?_,λ n=>⟨by simp [go_sem,zzb],by simp [go_sem,zza]⟩⟩;refine aF Tryz.func325 ?_;repeat first|refine wV λ _=>?_|simp [go_sem,zzb,zza]
 simp [go_sem,zaf]
theorem zuk (b:zbg) (hb:zbE b) (side d c:Int):zav Tryz.prog 299 [.agg (zgT b), .int side, .int d, .int c] (zaG (zor b side d c)):=by
 refine pF Tryz.func299 ?_;have hbl:∀n,(∀c' ∈ zgT b,Bel n c')=True:=λ n=>ae;have hel:(zgT b).length=3:=rfl;have hS:ztr Tryz.prog 325 [.agg (zgT b), .int side, .int d, .int c] (λ n=>zzb n) (λ n=>zza b side d c n) 4:=zFi b side d c;have hQ:=λ k=>zFh b hb side d c k;simp only [zzb,zza] at hS;have hte:(zgT b).take 3=zgT b:=rfl;obtain ⟨eb,heb⟩:∃eb,eb=zgT b:=⟨_,rfl⟩
 rw [<- heb] at hbl hel hS hQ hte ⊢;have hc1:=hb.c1;have hc0:=hb.c0;refine Jg2 hel hte ?_;refine zN1 hS aG ?_;refine Jg2 hel hte ?_;refine znP.mk [.fp eb, .fp [.int side], .fp [.int d], .fp [.int c]] (zhF _ [3,4,5,6]) (hQ (b.cells.toNat+1)) (zi2 _ _) ?_ aG (by simp [zd2]) ?_
 ·refine zaL.cons (.frzP rfl ?_ ?_ ?_ ?_) (zaL.cons (.frzP rfl ?_ ?_ ?_ ?_) (zaL.cons (.frzP rfl ?_ ?_ ?_ ?_) (zaL.cons (.frzP rfl ?_ ?_ ?_ ?_) .nil)))<;>first|exact zaL.refl _ _ _ _|simp [zhF,zkt,upd]
 refine Fgt.to (zOo (α:=Nat×Int×List Int) (λ a=>([(7, .ref 1 0 1 0 0),(9, .ref 2 0 1 0 0)], [(1, .rows true 0 1 [[.int c]]),(2, .rows true 0 1 [[.sl 7 a.2.2.length 1 0 a.2.2.length]]),(7, .rows true a.2.2.length 1 (a.2.2.map zd2))],8))
  (λ rows a=>rows=(zei b side d a.1 a.2.1).map zd2∧zcQ b side d a.1 a.2.1=zcQ b side d (b.cells.toNat+1) (toB b side d c)∧a.1+a.2.2.length=b.cells.toNat+1∧a.2.1<b.cells∧a.2.2.Nodup∧
   (∀y ∈ a.2.2,0<=y∧y<b.cells)∧zor b side d c=ziu b side d c a.1 a.2.1 a.2.2) ?_ ?_ _ (b.cells.toNat+1,toB b side d c, []) ?_) ?_ ?_
 ·rintro ⟨f,x,seen⟩ ⟨i0,i1,i2,i3,i4,i5,i6⟩;simp only at i0 i1 i2 i3 i4 i5 i6;have hsl:seen.length<=b.cells.toNat:=zmF _ _ i4 (λ y hy=>by grind);obtain ⟨f,rfl⟩:∃f',f=f'+1:=⟨f - 1,aa⟩
  have hx:¬0<=x:=λ hx=>by grind [zei]
  rw [zcQ,if_neg hx] at i1;rw [ziu,if_neg (λ h=>hx h.1)] at i6;refine ⟨i1.symm, ?_⟩;rw [i6];refine J1 hel ?_;exact frX
 ·rintro xs rs ⟨f,x,seen⟩ ⟨i0,i1,i2,i3,i4,i5,i6⟩ hrec;simp only at i0 i1 i2 i3 i4 i5 i6;have hsl:seen.length<=b.cells.toNat:=zmF _ _ i4 (λ y hy=>by grind);cases f with
  |zero=>simp [zei] at i0
  |succ f=>
  have hx:0<=x:=by
   grind [zei]
  rw [zei,if_pos hx] at i0;simp only [List.map_cons,List.cons.injEq] at i0;obtain ⟨rfl,rfl⟩:=i0;rw [zcQ,if_pos hx] at i1;rw [ziu] at i6;refine zdV.go (Nat.zero_le _) ?_;repeat first|refine wV λ _=>?_|simp [go_sem,hel,GH,zd2]
  refine zOe [zaG seen, .int x] (.v (.bool (decide (x ∈ seen)))) (λ _=>zvu seen x aa) (.v _) ?_ ae ?_
  ·refine zaL.cons ?_ (zaL.cons (.refl _) zaL.nil);refine LeV.frz rfl ?_ ?_ (zN6 ?_)<;>simp [noH,List.take_of_length_le]
  refine Jg1 hel ?_;refine zNX (λ hc=> ?_) (λ hc=> ?_)<;>simp at hc
  ·rw [if_neg af] at i6;rw [i6];refine Jg1 hel ?_;exact frX
  ·rw [if_pos ⟨hx,af⟩] at i6;refine Jg1 hel ?_;refine Fgt.to (hrec (f,toB b side d x,seen++ [x]) ⟨rfl,i1,af,ziJ hb _ _ _, ?_, ?_,i6⟩) ?_ ac
   ·grind
   ·grind
   ·simp [go_sem,zaf,GH]<;>(first|done|exact blX)
 ·exact ⟨rfl,rfl,ac,ziJ hb _ _ _,ac,ac,rfl⟩
 ·simp [go_sem,zaf]
 ·simp
end Go.Av
end
section
open Go Go.Proofs
namespace Go.Av
structure Cmp {α:Type} (c:α->α->Int):Prop where
 swap:∀a b,c b a= - c a b
 eq:∀a b,c a b=0↔a=b
 tr:∀a b d,c a b<=0->c b d<=0->c a d<=0
theorem zmu:Cmp zb1:=by
 refine ⟨λ a b=> ?_,λ a b=> ?_,λ a b d=> ?_⟩<;>unfold zb1<;>(repeat' split)<;>omega
def zNc (x y:Int):Int:=if x≠0 then x else y
theorem Cmp.prod {α β:Type}{c:α->α->Int}{d:β->β->Int} (hc:Cmp c) (hd:Cmp d):Cmp (λ (p q:α×β)=>zNc (c p.1 q.1) (d p.2 q.2)):=by
 refine ⟨λ p q=> ?_,λ p q=> ?_,λ p q r=> ?_⟩
 ·have h1:=hc.swap p.1 q.1;have h2:=hd.swap p.2 q.2;grind [zNc]
 ·have h1:=hc.eq p.1 q.1;have h2:=hd.eq p.2 q.2;grind [zNc]
 ·intro h1 h2;simp only [zNc] at h1 h2 ⊢;have e1:=hc.eq p.1 q.1;have e2:=hc.eq q.1 r.1;have e3:=hc.eq p.1 r.1;have s1:=hc.swap p.1 q.1;have s2:=hc.swap q.1 r.1;have s3:=hc.swap p.1 r.1;have t1:=hc.tr p.1 q.1 r.1;have t2:=hd.tr p.2 q.2 r.2;grind
theorem Cmp.pull {α β:Type}{c:β->β->Int} (hc:Cmp c) (f:α->β) (hf:∀a b,f a=f b->a=b):Cmp (λ a b=>c (f a) (f b)):=
 ⟨λ a b=>hc.swap _ _,λ a b=>⟨λ h=>hf _ _ ((hc.eq _ _).1 h),λ h=>(hc.eq _ _).2 (by rw [h])⟩,λ a b d=>hc.tr _ _ _⟩
theorem zvU:Cmp zkZ:=by
 refine ⟨?_, ?_, ?_⟩
 ·intro a;induction a with
  |nil=>intro b;cases b with
   |nil=>rfl
   |cons y b=>simp only [zkZ];grind [zb1]
  |cons x a ih=>intro b;cases b with
   |nil=>simp only [zkZ];grind [zb1]
   |cons y b=>
    have:=zmu.swap x y;grind [zkZ]
 ·intro a;induction a with
  |nil=>grind [zkZ,zb1]
  |cons x a ih=>intro b;cases b<;>grind [zkZ,zb1]
 ·intro a;induction a with
  |nil=>grind [zkZ,zb1]
  |cons x a ih=>
   intro b d h1 h2;cases b with
   |nil=>grind [zkZ,zb1]
   |cons y b=>
    cases d<;>grind [zkZ,zb1]
def tupP (p:zae):List Int×List Int×List Int×Int×Int:=(p.at_,p.h0,p.h1,p.rights,p.side)
theorem zaK:Cmp zbp:=
 Cmp.pull (zvU.prod (zvU.prod (zvU.prod (zmu.prod zmu)))) tupP (λ a b h=>by cases a;simp_all [tupP])
theorem zh3 {p q:zae}:zbp p q=0↔p=q:=zaK.eq p q
section sort
variable {α:Type} {c:α->α->Int} (hc:Cmp c)
def leC (c:α->α->Int) (a b:α):Bool:=decide (c a b<=0)
def zfi (c:α->α->Int) (l:List α):List α:=l.mergeSort (leC c)
include hc
theorem zLS (a b d:α) (h1:leC c a b=true) (h2:leC c b d=true):leC c a d=true:=by
 simp only [leC,decide_eq_true_eq] at *;exact hc.tr _ _ _ h1 h2
theorem zHE (a b:α):(leC c a b||leC c b a)=true:=by
 have:=hc.swap a b;grind [leC]
theorem zKB {a b:α} (h1:leC c a b=true) (h2:leC c b a=true):a=b:=by
 have:=hc.swap a b;simp only [leC,decide_eq_true_eq] at *;exact (hc.eq _ _).1 aa
theorem zq3 (l:List α):(zfi c l).Pairwise (λ a b=>leC c a b=true):=List.pairwise_mergeSort (zLS hc) (zHE hc) l
theorem zmg {l r:List α} (hp:r.Perm l) (hs:r.Pairwise (λ a b=>leC c a b=true)):zfi c l=r:=
 List.Perm.eq_of_pairwise (λ a b _ _ h1 h2=>zKB hc h1 h2) (zq3 hc l) hs ((List.mergeSort_perm l _).trans hp.symm)
theorem zBr (a b:List α):List.merge (zfi c a) (zfi c b) (leC c)=zfi c (a++b):=
 (zmg hc ((List.merge_perm_append (le:=leC c)).trans ((List.mergeSort_perm a _).append (List.mergeSort_perm b _)))
  (List.pairwise_merge (zLS hc) (zHE hc) _ _ (zq3 hc a) (zq3 hc b))).symm
omit hc in
theorem zvi (l:List α):(zfi c l).Perm l:=List.mergeSort_perm l _
omit hc in
theorem zki (l:List α):(zfi c l).length=l.length:=(zvi l).length_eq
omit hc in
theorem zkj {l:List α}{x:α}:x ∈ zfi c l↔x ∈ l:=(zvi l).mem_iff
omit hc in
theorem zIG:zfi c []= []:=by simp [zfi]
omit hc in
theorem zIH (a:α):zfi c [a]= [a]:=by simp [zfi]
omit hc in
theorem ztb {l:List α} (h:l.length<2):zfi c l=l:=by
 match l,h with
 | [], _=>exact zIG
 | [a], _=>exact zIH a
end sort
section once
variable {α:Type} [DecidableEq α]
def zco:α->List α->List α
 | _, []=> []
 |a,b::l=>if b=a then zco a l else b::zco b l
def zcT:List α->List α
 | []=> []
 |a::l=>a::zco a l
theorem zkB:∀ {l:List α}{a x:α},(x=a∨x ∈ zco a l)↔(x=a∨x ∈ l)
 | [],a,x=>by simp [zco]
 |b::l,a,x=>by
  simp only [zco];split
  ·rename_i h;subst h;rw [zkB (l:=l)];simp
  ·have:=zkB (l:=l) (a:=b) (x:=x);simp only [List.mem_cons];rw [this]
theorem zGU {l:List α}{x:α}:x ∈ zcT l↔x ∈ l:=by
 cases l<;>grind [zcT,zkB]
theorem zo9:∀ (l:List α) (a:α),(zco a l).length<=l.length
 | [],a=>by simp [zco]
 |b::l,a=>by
  simp only [zco];split
  ·have:=zo9 l a;simp;omega
  ·have:=zo9 l b;simp;omega
theorem zKc (l:List α):(zcT l).length<=l.length:=by
 cases l<;>grind [zcT,zo9]
theorem zpa {c:α->α->Int} (hc:Cmp c):∀ {l:List α}{a:α},(a::l).Pairwise (λ a b=>leC c a b=true)->(a::zco a l).Pairwise (λ a b=>c a b<0)
 | [],a, _=>by simp [zco]
 |b::l,a,h=>by
  simp only [zco];rw [List.pairwise_cons] at h;obtain ⟨h1,h2⟩:=h;split
  ·rename_i e;subst e;exact zpa hc h2
  ·rename_i e;have ih:=zpa hc h2;rw [List.pairwise_cons];refine ⟨λ x hx=> ?_,ih⟩;have hx':x=b∨x ∈ l:=zkB.1 (by simpa using hx);have hax:c a x<=0:=by
    have:=h1 x (by simpa using hx');simpa [leC] using this
   have hab:c a b<=0:=by
    have:=h1 b ac;simpa [leC] using this
   have hbx:c b x<=0:=by
    rcases hx' with rfl|hm
    ·have:=(hc.eq x x).2 rfl;omega
    ·rw [List.pairwise_cons] at h2;have:=h2.1 x hm;simpa [leC] using this
   rcases Int.lt_or_eq_of_le hax with h|h
   ·exact h
   ·have ex:=(hc.eq _ _).1 h;subst ex;have:=hc.swap a b;exact absurd ((hc.eq b a).1 aa) e
def zaS (c:α->α->Int) (l:List α):List α:=zcT (zfi c l)
theorem zal {c:α->α->Int}{l:List α}{x:α}:x ∈ zaS c l↔x ∈ l:=by rw [zaS,zGU,zkj]
theorem zbw {c:α->α->Int} (hc:Cmp c) (l:List α):(zaS c l).Pairwise (λ a b=>c a b<0):=by
 have h:=zq3 hc l;unfold zaS;cases hs:zfi c l with
 |nil=>simp [zcT]
 |cons a m=>grind [zpa,zcT]
theorem zgE (c:α->α->Int) (l:List α):(zaS c l).length<=l.length:=by
 grind [zKc,zki,zaS]
omit [DecidableEq α] in
theorem zvk {c:α->α->Int} (hc:Cmp c):∀ {l r:List α},l.Pairwise (λ a b=>c a b<0)->r.Pairwise (λ a b=>c a b<0)->(∀x,x ∈ l↔x ∈ r)->l=r
 | [],r, _, _,h=>by
  cases r with
  |nil=>rfl
  |cons b r=>have:=(h b).2 ac;simp at this
 |a::l, [], _, _,h=>by have:=(h a).1 ac;simp at this
 |a::l,b::r,h1,h2,h=>by
  rw [List.pairwise_cons] at h1 h2;have irr:∀x:α,¬c x x<0:=λ x hx=>by have:=(hc.eq x x).2 rfl;omega
  have ab:a=b:=by
   rcases List.mem_cons.1 ((h a).1 ac) with e|m
   ·exact e
   ·rcases List.mem_cons.1 ((h b).2 ac) with e|m'
    ·exact e.symm
    ·have k1:=h2.1 a m;have k2:=h1.1 b m';have:=hc.swap a b;omega
  subst ab;rw [zvk hc h1.2 h2.2 (λ x=> ?_)];constructor
  ·intro hx;rcases List.mem_cons.1 ((h x).1 (List.mem_cons_of_mem _ hx)) with e|m
   ·subst e;exact absurd (h1.1 _ hx) (irr _)
   ·exact m
  ·intro hx;rcases List.mem_cons.1 ((h x).2 (List.mem_cons_of_mem _ hx)) with e|m
   ·subst e;exact absurd (h2.1 _ hx) (irr _)
   ·exact m
theorem zdg {c:α->α->Int} (hc:Cmp c){l r:List α} (hr:r.Pairwise (λ a b=>c a b<0)) (h:∀x,x ∈ l↔x ∈ r):zaS c l=r:=
 zvk hc (zbw hc l) hr (λ x=>by grind [zal])
theorem zkT {c:α->α->Int} (hc:Cmp c){l r:List α} (h:∀x,x ∈ l↔x ∈ r):zaS c l=zaS c r:=
 zdg hc (zbw hc r) (λ x=>by grind [zal])
end once
end Go.Av
end
section
open Go Go.Proofs
namespace Go.Av
def dxL:List Int:= [0,1,1,1,0, -1, -1, -1]
def dyL:List Int:= [-1, -1,0,1,1,1,0, -1]
def zmC (w h:Int) (d:Nat) (c:Nat):Int:=
  if (0<=(c:Int).tmod w+nth dxL d∧(c:Int).tmod w+nth dxL d<w)∧0<=(c:Int).tdiv w+nth dyL d∧(c:Int).tdiv w+nth dyL d<h then ((c:Int).tdiv w+nth dyL d) * w+((c:Int).tmod w+nth dxL d) else -1
def zik (w h:Nat) (d:Nat) (n:Nat):List Int:=(List.range n).map (zmC w h d)
def zdr (w h:Nat) (d:Nat):List (List Int):=(List.range d).map λ d=>zik w h d (w * h)
def zec (d:Nat):List Int:=(List.range d).map λ i:Nat=>Int.tmod ((i:Int)+4) 8
def zij (w h:Nat):zbg:=⟨w * h,zdr w h 8,zec 8⟩
theorem zp2 (w h d n:Nat):zik w h d (n+1)=zik w h d n++ [zmC w h d n]:=by simp [zik,List.range_succ]
theorem zwg (w h d:Nat):zdr w h (d+1)=zdr w h d++ [zik w h d (w * h)]:=by simp [zdr,List.range_succ]
theorem zwh (d:Nat):zec (d+1)=zec d++ [Int.tmod ((d:Int)+4) 8]:=by simp [zec,List.range_succ]
theorem zzC (w h:Nat) (hw:1<=w∧w<=8) (hh:1<=h∧h<=8):zav Tryz.prog 129 [.int w, .int h] (.tup [.agg (zgT (zij w h)), .int 0]):=by
  refine pF Tryz.func129 ?_;have hwh:(w:Int) * h<=64:=by
    have:w * h<=8 * 8:=Nat.mul_le_mul hw.2 hh.2;omega
  have hwh0:(1:Int)<=(w:Int) * h:=by
    have:1 * 1<=w * h:=Nat.mul_le_mul hw.1 hh.1;omega
  obtain ⟨D,hD⟩:∃D:Nat,D=w * h:=⟨_,rfl⟩
  have hD':(w:Int) * h=D:=af;rw [hD'] at hwh hwh0;have e1:(zgT (zij w h))= [.int D,zcU (zdr w h 8),zaG (zec 8)]:=by simp [zgT,zij,hD']
  rw [e1];have hdx:∀x ∈ dxL, -1<=x∧x<=1:=ai;have hdy:∀x ∈ dyL, -1<=x∧x<=1:=ai;have ldx:dxL.length=8:=rfl;have ldy:dyL.length=8:=rfl;have edx:dxL.map zd2= [[.int 0], [.int 1], [.int 1], [.int 1], [.int 0], [.int (-1)], [.int (-1)], [.int (-1)]]:=rfl;have edy:dyL.map zd2= [[.int (-1)], [.int (-1)], [.int 0], [.int 1], [.int 1], [.int 1], [.int 0], [.int (-1)]]:=rfl;have hst:∀d c,zmC w h d c=zmC w h d c:=λ _ _=>rfl;refine J1 hD' ?_;refine FxF ?_;refine J1 hD' ?_;refine zNW (zNY (α:=Nat) (λ d=>⟨[(0, .int w),(1, .int h),(4, .ref 0 0 3 0 0),(6, .sl 1 0 1 0 8),(7, .sl 2 0 1 0 8),(8, .ref 3 0 3 0 0),(9, .int d)],
      [(0, .rows true 0 3 [[.int 0, .v (.slice none 0 0), .v (.slice none 0 0)]]),(1, .rows true 0 1 (dxL.map zd2)),(2, .rows true 0 1 (dyL.map zd2)),
       (3, .rows true 0 3 [[.int D, .sl 4 d 1 0 d, .sl 5 d 1 0 d]]),(4, .rows true d 1 ((zdr w h d).map λ l=> [zaG l])),(5, .rows true d 1 ((zec d).map zd2))],6⟩)
    (λ r d=>d+r=8) ?_ 8 0 ?_) ?_ ?_
  · rintro r d i1 hrec;have lgn:(zdr w h d).length=d:=by simp [zdr]
    have lgt:(zec d).length=d:=by simp [zec]
    refine J0 ?_;refine zNX (λ hd=> ?_) (λ hd=> ?_)<;>simp at hd
    · have hd1:d<dxL.length:=by omega
      have hd2:d<dyL.length:=aa;have bx:=hdx _ (zah hd1);have by_:=hdy _ (zah hd2);have hgs:∀c,zmC w h d c=if (0<=(c:Int).tmod w+nth dxL d∧(c:Int).tmod w+nth dxL d<w)∧0<=(c:Int).tdiv w+nth dyL d∧(c:Int).tdiv w+nth dyL d<h then ((c:Int).tdiv w+nth dyL d) * w+((c:Int).tmod w+nth dxL d) else -1:=λ _=>rfl
      refine J0 ?_;refine zNW (zNY (α:=Nat) (λ c=>⟨[(0, .int w),(1, .int h),(4, .ref 0 0 3 0 0),(6, .sl 1 0 1 0 8),(7, .sl 2 0 1 0 8),(8, .ref 3 0 3 0 0),(9, .int d),(10, .sl 6 c 1 0 c),(11, .int c)],
          [(0, .rows true 0 3 [[.int 0, .v (.slice none 0 0), .v (.slice none 0 0)]]),(1, .rows true 0 1 (dxL.map zd2)),(2, .rows true 0 1 (dyL.map zd2)),
           (3, .rows true 0 3 [[.int D, .sl 4 d 1 0 d, .sl 5 d 1 0 d]]),(4, .rows true d 1 ((zdr w h d).map λ l=> [zaG l])),(5, .rows true d 1 ((zec d).map zd2)),(6, .rows true c 1 ((zik w h d c).map zd2))],7⟩)
        (λ s c=>c+s=D) ?_ D 0 ?_) ?_ ?_
      · rintro s c j1 hrec2;have lgr:(zik w h d c).length=c:=by simp [zik]
        refine J1 hD' ?_;refine zNX (λ hc=> ?_) (λ hc=> ?_)<;>simp at hc
        · have m0:=Int.tmod_nonneg (w:Int) (show (0:Int)<=c by omega);have m1:=Int.tmod_lt_of_pos (c:Int) (show (0:Int)<w by omega);have q0:0<=(c:Int).tdiv w:=Int.tdiv_nonneg aa aa;have q1:(c:Int).tdiv w<=c:=by rw [Int.tdiv_eq_ediv_of_nonneg aa];exact Int.ediv_le_self _ aa
          have hgs:=hgs c;generalize hmv:(c:Int).tmod w=mv at *;generalize hqv:(c:Int).tdiv w=qv at *;generalize hvx:nth dxL d=vx at *;generalize hvy:nth dyL d=vy at *;have hp:0<=qv+vy->qv+vy<h->0<=(qv+vy) * w∧(qv+vy) * w<=64:=λ k1 k2=>
            ⟨Int.mul_nonneg k1 aa,by have:=Int.mul_le_mul (show qv+vy<=8 by omega) (show (w:Int)<=8 by omega) aa aa;omega⟩
          refine J7 hd1 hd2 hmv hqv hD' hvx hvy ?_;refine zNX (λ hg=> ?_) (λ hg=> ?_)<;>simp at hg
          · rw [if_pos aa] at hgs;have hp:=hp aa aa;generalize hpw:(qv+vy) * (w:Int)=pw at *;refine J1 hpw ?_;refine zNW (hrec2 (s - 1) aa (c+1) aa) ?_ ac;simp [go_sem,zaf,zp2,hgs];(first|done|exact blX)
          · rw [if_neg aa] at hgs;refine J0 ?_;refine zNW (hrec2 (s - 1) aa (c+1) aa) ?_ ac;simp [go_sem,zaf,zp2,hgs];(first|done|exact blX)
        · have hcD:c=w * h:=by omega
          subst hcD;have hgn:=zwg w h d;have hgt:=zwh d;refine J0 ?_;refine zNW (hrec (r - 1) aa (d+1) aa) ?_ ac;simp [go_sem,zaf,hgn,hgt];refine ⟨⟨?_, ?_⟩, ?_⟩
          · refine zaJ (.refl _) ?_;refine zaM.cons (zaL.cons ?_ zaL.nil) zaM.nil;refine LeV.frz rfl ?_ ?_ (zN6 ?_)<;>simp [mkH,upd,lgr,List.take_of_length_le]
          · rintro r (⟨a, _,rfl⟩|rfl) c hc<;>simp at hc<;>subst hc<;>exact of_eq_true zBQ
          · (first|done|exact blX)
      · simp
      · simp [go_sem,zaf,zik]
      · simp
    · have hd8:d=8:=by omega
      subst hd8;refine J0 ?_;refine ⟨?_, ?_⟩<;>(refine LeV.frz rfl ?_ ?_ (zN6 ?_)<;>simp [noH,lgn,lgt,List.take_of_length_le])
  · simp
  · simp [go_sem,zaf,edx,edy,zdr,zec]
  · simp
def zkV (b:zbg) (c:Int) (d x:Nat):Int:=if (x:Int)=c∨nth (nth b.next d) x=c then -1 else nth (nth b.next d) x
def zdE (b:zbg) (c:Int) (d n:Nat):List Int:=(List.range n).map (zkV b c d)
def zbW (b:zbg) (c:Int) (d:Nat):List (List Int):=(List.range d).map λ d=>zdE b c d b.cells.toNat
def zeR (b:zbg) (c:Int):zbg:=⟨b.cells,zbW b c b.next.length,b.turn⟩
theorem zmq (b:zbg) (c:Int) (d n:Nat):zdE b c d (n+1)=zdE b c d n++ [zkV b c d n]:=by simp [zdE,List.range_succ]
theorem zqq (b:zbg) (c:Int) (d:Nat):zbW b c (d+1)=zbW b c d++ [zdE b c d b.cells.toNat]:=by simp [zbW,List.range_succ]
theorem zts (b:zbg) (hb:zbE b) (c:Int) (h0:0<=c) (h1:c<b.cells):zav Tryz.prog 130 [.agg (zgT b), .int c] (.tup [.agg (zgT (zeR b c)), .int 0]):=by
  refine pF Tryz.func130 ?_;obtain ⟨tl,tv,nl,nv,c0,c1,n1⟩:=hb;have e1:(zgT (zeR b c))= [.int b.cells,zcU (zbW b c b.next.length),zaG b.turn]:=rfl;rw [e1];refine J0 ?_;refine FxF ?_;refine J0 ?_;refine zNW (zNY (α:=Nat) (λ d=>⟨[(1, .int c),(2, .ref 0 0 3 0 0),(4, .ref 1 0 3 0 0),(6, .ref 9 0 3 0 0),(7, .int d)],
      [(0, .rows true 0 3 [zgT b]),(1, .rows true 0 3 [[.int 0, .v (.slice none 0 0), .v (.slice none 0 0)]]),(4, .rows true 1 1 (b.turn.map zd2)),
       (9, .rows true 0 3 [[.int b.cells, .sl 11 d 1 0 d, .sl 4 1 1 0 b.turn.length]]),(11, .rows true d 1 ((zbW b c d).map λ l=> [zaG l]))],12⟩)
    (λ r d=>d+r=b.next.length) ?_ b.next.length 0 ?_) ?_ ?_
  · rintro r d i1 hrec;have lgn:(zbW b c d).length=d:=by simp [zbW]
    refine J0 ?_;refine zNX (λ hd=> ?_) (λ hd=> ?_)<;>simp at hd
    · have hlen:=nl _ (zah hd);refine J0 ?_;refine zNW (zNY (α:=Nat) (λ x=>⟨[(1, .int c),(2, .ref 0 0 3 0 0),(4, .ref 1 0 3 0 0),(6, .ref 9 0 3 0 0),(7, .int d),(8, .sl 12 x 1 0 x),(9, .int x)],
          [(0, .rows true 0 3 [zgT b]),(1, .rows true 0 3 [[.int 0, .v (.slice none 0 0), .v (.slice none 0 0)]]),(4, .rows true 1 1 (b.turn.map zd2)),
           (9, .rows true 0 3 [[.int b.cells, .sl 11 d 1 0 d, .sl 4 1 1 0 b.turn.length]]),(11, .rows true d 1 ((zbW b c d).map λ l=> [zaG l])),(12, .rows true x 1 ((zdE b c d x).map zd2))],13⟩)
        (λ s x=>x+s=b.cells.toNat) ?_ b.cells.toNat 0 ?_) ?_ ?_
      · rintro s x j1 hrec2;have lgr:(zdE b c d x).length=x:=by simp [zdE]
        refine J0 ?_;refine zNX (λ hx=> ?_) (λ hx=> ?_)<;>simp at hx
        · have hxl:x<(nth b.next d).length:=by omega
          have hgs:zkV b c d x=if (x:Int)=c∨nth (nth b.next d) x=c then -1 else nth (nth b.next d) x:=rfl
          refine J2 hd hxl ?_;refine zNX (λ hg=> ?_) (λ hg=> ?_)<;>simp at hg
          · rw [if_pos aa] at hgs;refine J0 ?_;refine zNW (hrec2 (s - 1) aa (x+1) aa) ?_ ac;simp [go_sem,zaf,zmq,hgs];(first|done|exact blX)
          · rw [if_neg aa] at hgs;refine J0 ?_;refine zNW (hrec2 (s - 1) aa (x+1) aa) ?_ ac;simp [go_sem,zaf,zmq,hgs];(first|done|exact blX)
        · have hcD:x=b.cells.toNat:=by omega
          subst hcD;have hgn:=zqq b c d;refine J0 ?_;refine zNW (hrec (r - 1) aa (d+1) aa) ?_ ac;simp [go_sem,zaf,hgn];refine ⟨?_, ?_⟩
          · refine zaJ (.refl _) ?_;refine zaM.cons (zaL.cons ?_ zaL.nil) zaM.nil;refine LeV.frz rfl ?_ ?_ (zN6 ?_)<;>simp [mkH,upd,lgr,List.take_of_length_le]
          grind [zBQ]
      · simp
      · simp [go_sem,zaf,zdE]
      · simp
    · have hd8:d=b.next.length:=by omega
      subst hd8;refine J0 ?_;refine ⟨?_, ?_⟩<;>(refine LeV.frz rfl ?_ ?_ (zN6 ?_)<;>simp [noH,lgn,List.take_of_length_le])
  · simp
  · simp [go_sem,zaf,zbW]
  · simp
theorem zpR {w h:Nat} (hw:1<=w∧w<=8) (hh:1<=h∧h<=8):zbE (zij w h):=by
 have hwh:w * h<=64:=Nat.mul_le_mul hw.2 hh.2;have e:((w:Int) * h)=((w * h:Nat):Int):=ac;refine ⟨by simp [zij,zec,zdr], ?_, ?_, ?_, ?_, ?_,by simp [zij,zdr]⟩
 ·grind [zij,zec,zdr]
 ·grind [zij,zdr,zik]
 ·intro l hl x hx;simp only [zij,zdr,List.mem_map,List.mem_range] at hl;obtain ⟨i,hi,rfl⟩:=hl;simp only [zik,List.mem_map,List.mem_range] at hx;obtain ⟨c,hc,rfl⟩:=hx;simp only [zij,zmC];split
  ·rename_i hg;obtain ⟨⟨g1,g2⟩,g3,g4⟩:=hg;generalize (c:Int).tmod w+nth dxL i=x at *;generalize (c:Int).tdiv w+nth dyL i=y at *;have k1:0<=y * w:=Int.mul_nonneg g3 aa;have k2:y * w<=(h - 1) * w:=Int.mul_le_mul_of_nonneg_right aa aa;grind
  ·omega
 all_goals grind [zij]
theorem zrC {b:zbg} (hb:zbE b) (c:Int):zbE (zeR b c):=by
 have hl:(zbW b c b.next.length).length=b.next.length:=by simp [zbW]
 have hc0:=hb.c0;refine ⟨by simp only [zeR,hl];exact hb.tl, ?_, ?_, ?_,hb.c0,hb.c1,by simp only [zeR,hl];exact hb.n1⟩
 ·intro t ht;simp only [zeR,hl];exact hb.tv t ht
 ·grind [zeR,zbW,zdE]
 ·intro l hl x hx;simp only [zeR,zbW,List.mem_map,List.mem_range] at hl;obtain ⟨i,hi,rfl⟩:=hl;simp only [zdE,List.mem_map,List.mem_range] at hx;obtain ⟨k,hk,rfl⟩:=hx;simp only [zeR,zkV];split
  ·omega
  ·have h1:=hb.nl _ (zah hi);exact hb.nv _ (zah hi) _ (zah aa)
def zla (w h cut:Int):zbg:=
 if 200<cut then zeR (zij (1+w.tmod 3).toNat (1+h.tmod 3).toNat) (cut.tmod (zij (1+w.tmod 3).toNat (1+h.tmod 3).toNat).cells) else zij (1+w.tmod 3).toNat (1+h.tmod 3).toNat
theorem zpS {w h:Int} (hw:0<=w) (hh:0<=h) (cut:Int):zbE (zla w h cut):=by
 grind [zpR,zla,zrC]
theorem zzE (w h cut:Int) (hw:0<=w∧w<=255) (hh:0<=h∧h<=255) (hc:0<=cut∧cut<=255):zav Tryz.prog 76 [.v (.int .u8 w), .v (.int .u8 h), .v (.int .u8 cut)] (.agg (zgT (zla w h cut))):=by
 refine pF Tryz.func76 ?_;have a0:=Int.tmod_nonneg 3 hw.1;have a1:=Int.tmod_lt_of_pos w (show (0:Int)<3 by decide);have b0:=Int.tmod_nonneg 3 hh.1;have b1:=Int.tmod_lt_of_pos h (show (0:Int)<3 by decide);obtain ⟨W,hW⟩:∃W:Nat,1+w.tmod 3=W:=⟨(1+w.tmod 3).toNat,aa⟩
 obtain ⟨H,hH⟩:∃H:Nat,1+h.tmod 3=H:=⟨(1+h.tmod 3).toNat,aa⟩
 have e:zla w h cut=if 200<cut then zeR (zij W H) (cut.tmod (zij W H).cells) else zij W H:=by grind [zla]
 rw [e];have hG:=zzC W H aa aa;have hok:zbE (zij W H):=zpR aa aa;have hcl:1<=(zij W H).cells:=by
  have:1 * 1<=W * H:=Nat.mul_le_mul aa aa;grind [zij]
 generalize zij W H=b at *;have m0:=Int.tmod_nonneg b.cells hc.1;have m1:=Int.tmod_lt_of_pos cut (show (0:Int)<b.cells by omega);have hWo:=zts b hok (cut.tmod b.cells) m0 m1;have hel:(zgT b).length=3:=rfl;have hbl:∀n,(∀c' ∈ zgT b,Bel n c')=True:=λ n=>ae;refine J2 hW hH ?_;refine aP hG ?_;refine J0 ?_;refine zNX (λ hcut=> ?_) (λ hcut=> ?_)<;>simp at hcut
 ·rw [if_pos hcut];refine J0 ?_;refine dP hWo ?_;exact K0
 ·rw [if_neg aa];exact K0
def zaT (p:List (Int×Int)):AV:= .lst 2 (p.map zbT)
variable {n:Nat}
theorem bel_S {l:List (Int×Int)}:(∀r ∈ l.map zbT,∀c ∈ r,Bel n c)=True:=by
  refine eq_true ?_;intro r hr c hc;obtain ⟨x, _,rfl⟩:=List.mem_map.1 hr;simp only [zbT,List.mem_cons,List.mem_nil_iff,or_false] at hc;rcases hc with rfl|rfl<;>exact .v _
theorem zvK {l:List (Int×Int)}:Bel n (.lst 2 (l.map zbT))=True:=by rw [zel,bel_S]
attribute [go_sem] zaT
attribute [go_sem high] zvK
theorem zFO (l:List Int) (i:Nat) (hi:i<=1000) (hl:l.length<=9223372036854775807) (hv:∀x ∈ l,0<=x∧x<=255):zav Tryz.prog 180 [zDL l, .int i] (.int (if i<l.length then nth l i else 0)):=by
  refine pF Tryz.func180 ?_;refine J0 ?_;refine zNX (λ h=> ?_) (λ h=> ?_)<;>simp at h
  · have hb:=hv _ (zah h);rw [if_pos h];exact K1 h
  · rw [if_neg aa];exact K0
def zFw (d e k r:Int):List (List (Int×Int)):=
  [[(1,d),(3,0)], [(1,d),(4,0),(6,0)], [(2,d)], [(2,d),(4,0),(6,0)], [(1,d),(4,0),(6,0),(1,d)], [(1,d),(1,e)], [(1,d),(7,d)], [(1,d),(3,0),(8,k)],
   [(9,r),(1,d),(1,d),(10,r)], [(1,d),(5,0),(1,d),(3,0)], [(10,r),(1,d)], [(1,d),(4,0),(6,0),(1,(d+4).tmod 8)], [(1,d),(4,0),(6,0),(1,e),(4,0),(6,0)], [(2,d),(5,0),(1,d)], [(1,d),(4,0),(6,0),(8,k)], [(1,d),(7,d),(1,e)]]
theorem zDa (a b c d e:Int) (hv:∀x ∈ [a,b,c,d,e],0<=x∧x<=255):zav Tryz.prog 132 [zDL [a,b,c,d,e]] (zaT (nth (zFw (b.tmod 8) (c.tmod 8) (d.tmod 6) (e.tmod 4)) (a.tmod 16).toNat)):=by
  refine pF Tryz.func132 ?_;have hA:=λ (i:Nat) (hi:i<5)=>zFO [a,b,c,d,e] i aa ac hv;have h0:=hA 0 aa;have h1:=hA 1 aa;have h2:=hA 2 aa;have h3:=hA 3 aa;have h4:=hA 4 aa;clear hA;simp [nth] at h0 h1 h2 h3 h4 hv;obtain ⟨v0,v1,v2,v3,v4⟩:=hv;have b0:=Int.tmod_nonneg 8 v1.1;have b1:=Int.tmod_lt_of_pos b (show (0:Int)<8 by decide);have a0:=Int.tmod_nonneg 16 v0.1;have a1:=Int.tmod_lt_of_pos a (show (0:Int)<16 by decide);refine J0 ?_;refine aP h1 ?_;refine J0 ?_;refine aP h2 ?_;refine J0 ?_;refine aP h3 ?_;refine J0 ?_;refine aP h4 ?_;generalize hbv:b.tmod 8=B at *;generalize hcv:c.tmod 8=C at *;generalize hdv:d.tmod 6=D at *;generalize hev:e.tmod 4=E at *;refine J4 hbv hcv hdv hev ?_;refine aP h0 ?_;refine J0 ?_;obtain ⟨i,hi⟩:∃i:Nat,a.tmod 16=i:=⟨(a.tmod 16).toNat,aa⟩
  rw [hi] at a0 a1 ⊢;rcases (show i=0∨i=1∨i=2∨i=3∨i=4∨i=5∨i=6∨i=7∨i=8∨i=9∨i=10∨i=11∨i=12∨i=13∨i=14∨i=15 by omega) with rfl|rfl|rfl|rfl|rfl|rfl|rfl|rfl|rfl|rfl|rfl|rfl|rfl|rfl|rfl|rfl<;>
    (simp [nth,cel,zFw,zbT];refine LeV.frz rfl ?_ ?_ (zN6 ?_)<;>simp [noH])
def zc3 (dirs kinds rights:Int) (x:Int×Int):Option (Int×Int):=
 if x.1=1∨x.1=2∨x.1=7 then some (x.1,x.2.tmod dirs) else if x.1=8 then some (x.1,x.2.tmod kinds)
 else if x.1=9∨x.1=10 then (if rights=0 then none else some (x.1,x.2.tmod rights)) else some x
def zNS (dirs kinds rights:Int) (p:List (Int×Int)):List (Int×Int):=if p.filterMap (zc3 dirs kinds rights)= [] then [(3,0)] else p.filterMap (zc3 dirs kinds rights)
theorem zHh {α β:Type} [Inhabited α] (f:α->Option β) (l:List α) (j:Nat) (h:j<l.length):(l.take (j+1)).filterMap f=(l.take j).filterMap f++(f (nth l j)).toList:=by
 grind [List.take_add_one,nth]
theorem zC9 (p:List (Int×Int)) (hp:p.length<=1048576) (dirs kinds rights:Int) (hd:1<=dirs) (hk:1<=kinds) (hr:0<=rights):
  zav Tryz.prog 131 [zaT p, .int dirs, .int kinds, .int rights] (zaT (zNS dirs kinds rights p)):=by
 refine pF Tryz.func131 ?_;refine J0 ?_;refine zNW (zNY (α:=Nat×List (Int×Int)) (λ a=>⟨[(0,zaT p),(1, .int dirs),(2, .int kinds),(3, .int rights),(9, .sl 0 a.2.length 2 0 a.2.length),(10, .int a.1)], [(0, .rows true a.2.length 2 (a.2.map zbT))],1⟩)
  (λ d a=>a.1+d=p.length∧a.2=(p.take a.1).filterMap (zc3 dirs kinds rights)∧a.2.length<=a.1) ?_ p.length (0, []) ?_) ?_ ?_
 ·rintro d ⟨j,out⟩ ⟨i1,i2,i3⟩ hrec;simp only at i1 i2 i3;refine J0 ?_;refine zNX (λ hj=> ?_) (λ hj=> ?_)<;>simp at hj
  ·have hs:=zHh (zc3 dirs kinds rights) p j hj;rw [<- i2] at hs;generalize hx:nth p j=x at *;obtain ⟨op,n⟩:=x;have hgo:∀y,zc3 dirs kinds rights (op,n)=some y->out++ [y]=(p.take (j+1)).filterMap (zc3 dirs kinds rights)∧(out++ [y]).length<=j+1:=λ y hy=>af;have hbel:∀y:Int×Int,∀r ∈ (out++ [y]).map zbT,∀c ∈ r,Bel 1 c:=λ y=>of_eq_true bel_S;rcases (show (op=1∨op=2∨op=7)∨op=8∨(op=9∨op=10)∨(op≠1∧op≠2∧op≠7∧op≠8∧op≠9∧op≠10) by omega) with c1|c1|c1|⟨c1,c2,c3,c4,c5,c6⟩
   ·have hf:zc3 dirs kinds rights (op,n)=some (op,n.tmod dirs):=by grind [zc3]
    obtain ⟨k1,k2⟩:=hgo _ hf;have hb:=hbel (op,n.tmod dirs);rcases c1 with rfl|rfl|rfl<;>
    ·refine J2 hj hx ?_;refine zNW (hrec (d - 1) aa (j+1,out++ [(_,n.tmod dirs)]) ⟨aa,k1,k2⟩) ?_ ac;simp [go_sem,zaf] at hb ⊢;grind
   ·have hf:zc3 dirs kinds rights (op,n)=some (op,n.tmod kinds):=by grind [zc3]
    obtain ⟨k1,k2⟩:=hgo _ hf;have hb:=hbel (op,n.tmod kinds);subst c1;refine J2 hj hx ?_;refine zNW (hrec (d - 1) aa (j+1,out++ [(_,n.tmod kinds)]) ⟨aa,k1,k2⟩) ?_ ac;simp [go_sem,zaf] at hb ⊢;grind
   ·by_cases hr0:rights=0
    ·have hf:zc3 dirs kinds rights (op,n)=none:=by grind [zc3]
     rw [hf,Option.toList_none,List.append_nil] at hs;have hb:=hbel (op,n);subst hr0;rcases c1 with rfl|rfl<;>
     ·refine J2 hj hx ?_;refine zNW (hrec (d - 1) aa (j+1,out) ⟨aa,hs.symm,af⟩) ?_ ac;simp [go_sem,zaf];grind [zbT]
    ·have hf:zc3 dirs kinds rights (op,n)=some (op,n.tmod rights):=by grind [zc3]
     obtain ⟨k1,k2⟩:=hgo _ hf;have hb:=hbel (op,n.tmod rights);rcases c1 with rfl|rfl<;>
     ·refine J3 hj hx hr0 ?_;refine zNW (hrec (d - 1) aa (j+1,out++ [(_,n.tmod rights)]) ⟨aa,k1,k2⟩) ?_ ac;simp [go_sem,zaf] at hb ⊢;grind
   ·have hf:zc3 dirs kinds rights (op,n)=some (op,n):=by grind [zc3]
    obtain ⟨k1,k2⟩:=hgo _ hf;have hb:=hbel (op,n);refine J8 hj hx c1 c2 c3 c4 c5 c6 ?_;refine zNW (hrec (d - 1) aa (j+1,out++ [(op,n)]) ⟨aa,k1,k2⟩) ?_ ac;simp [go_sem,zaf] at hb ⊢;grind
  ·have hout:zNS dirs kinds rights p=if out= [] then [(3,0)] else out:=by
    grind [zNS]
   rw [hout];refine J0 ?_;refine zNX (λ ho=> ?_) (λ ho=> ?_)<;>simp at ho
   ·rw [if_pos ho];refine J0 ?_;refine LeV.frz rfl ?_ ?_ (zN6 ?_)<;>simp [noH]
   ·rw [if_neg ho];refine J0 ?_;refine LeV.frz rfl ?_ ?_ (zN6 ?_)<;>simp [noH,List.take_of_length_le]
 ·simp
 ·simp [go_sem,zaf]
 ·simp
def zsu (n dirs kinds rights:Int):List (Int×Int):=
 zNS dirs kinds rights (nth (zFw ((n.tdiv 16).tmod 8) ((n.tdiv 16+n.tmod 5).tmod 8) ((n.tdiv 3).tmod 6) (n.tmod 4)) (n.tmod 16).toNat)
theorem zKJ (d e k r:Int) (i:Nat):(nth (zFw d e k r) i).length<=6:=by
 rcases Nat.lt_or_ge i 16 with h|h
 ·have:∀l ∈ zFw d e k r,l.length<=6:=by simp [zFw]
  exact this _ (zah h)
 ·have:nth (zFw d e k r) i= []:=by
   unfold nth;rw [List.getD_eq_getElem?_getD,List.getElem?_eq_none (by exact h)];rfl
  grind
theorem zkv (n dirs kinds rights:Int) (hn:0<=n∧n<=255) (hd:1<=dirs) (hk:1<=kinds) (hr:0<=rights):
  zav Tryz.prog 77 [.v (.int .u8 n), .int dirs, .int kinds, .int rights] (zaT (zsu n dirs kinds rights)):=by
 refine pF Tryz.func77 ?_;have q0:0<=n.tdiv 16∧n.tdiv 16<=15:=af;have q1:0<=n.tdiv 3∧n.tdiv 3<=255:=af;have m0:=Int.tmod_nonneg 5 hn.1;have m1:=Int.tmod_lt_of_pos n (show (0:Int)<5 by decide);have hL:=zDa n (n.tdiv 16) (n.tdiv 16+n.tmod 5) (n.tdiv 3) n af;unfold zsu;have hpl:=zKJ ((n.tdiv 16).tmod 8) ((n.tdiv 16+n.tmod 5).tmod 8) ((n.tdiv 3).tmod 6) (n.tmod 4) (n.tmod 16).toNat;generalize nth (zFw ((n.tdiv 16).tmod 8) ((n.tdiv 16+n.tmod 5).tmod 8) ((n.tdiv 3).tmod 6) (n.tmod 4)) (n.tmod 16).toNat=p at *;have hF:=zC9 p aa dirs kinds rights hd hk hr;generalize hqa:n.tdiv 16=qa at *;generalize hqb:n.tdiv 3=qb at *;generalize hmc:n.tmod 5=mc at *;refine J3 hqa hqb hmc ?_;refine zN3 [0] hL ?_ ae ?_
 ·refine zaL.cons ?_ zaL.nil;refine LeV.frz rfl ?_ ?_ (zN6 ?_)<;>simp [zhF,zkt,upd,zAn]
 ·refine J0 ?_;refine aP hF ?_;exact K0
theorem zrf (n a b:Int):zav Tryz.prog 177 [.int n, .int a, .int b] (.v (.bool (decide (a<=n∧n<=b)))):=by
 refine pF Tryz.func177 ?_;exact K0
def zat (c:Int):Int×Int:=if 1<=c∧c<=12 then ((c - 1).tdiv 2,(c - 1).tmod 2) else (-1, -1)
theorem zll (c:Int):zav Tryz.prog 124 [.int c] (.agg [.int (zat c).1, .int (zat c).2]):=by
 refine pF Tryz.func124 ?_;refine J0 ?_;refine aP (zrf c 1 12) ?_;by_cases h:1<=c∧c<=12
 ·have e:zat c=((c - 1).tdiv 2,(c - 1).tmod 2):=by grind [zat]
  have q:(c - 1).tdiv 2=(c - 1) / 2:=Int.tdiv_eq_ediv_of_nonneg aa;rw [e];exact K2 h q
 ·have e:zat c=(-1, -1):=by grind [zat]
  rw [e];exact K1 h
def zdF (k s:Int):Int:=if (0<=k∧k<=5)∧0<=s∧s<=1 then 2 * k+1+s else 0
theorem zkw (k s:Int):zav Tryz.prog 126 [.int k, .int s] (.int (zdF k s)):=by
 refine pF Tryz.func126 ?_;refine J0 ?_;refine aP (zrf k 0 5) ?_;refine J0 ?_;refine zN4 _ (λ _=>zrf s 0 1) ae ?_;refine J0 ?_;refine zNX (λ h=> ?_) (λ h=> ?_)<;>simp at h
 ·have e:zdF k s=0:=by grind [zdF]
  rw [e];exact K0
 ·have e:zdF k s=2 * k+1+s:=by grind [zdF]
  rw [e];refine J0 ?_;grind [zN9]
structure StD where
 p:zae
 kind:Int
 cursor:Int
 took:Bool
 deriving DecidableEq
structure zca where
 pos:zae
 took:Bool
 deriving DecidableEq
instance:Inhabited StD:=⟨⟨default,0,0,false⟩⟩
instance:Inhabited zca:=⟨⟨default,false⟩⟩
def zaO (s:StD):List AV:= [zaG s.p.at_,zaG s.p.h0,zaG s.p.h1, .int s.p.rights, .int s.p.side, .int s.kind, .int s.cursor, .v (.bool s.took)]
def zdJ (l:List StD):AV:= .lst 8 (l.map zaO)
def zbm (o:zca):List AV:= [zaG o.pos.at_,zaG o.pos.h0,zaG o.pos.h1, .int o.pos.rights, .int o.pos.side, .v (.bool o.took)]
def zjT (l:List zca):AV:= .lst 6 (l.map zbm)
attribute [go_sem] zaO zdJ zbm zjT
theorem zBS {l:List StD}:(∀r ∈ l.map zaO,∀c ∈ r,Bel n c)=True:=by
 refine eq_true ?_;intro r hr c hc;obtain ⟨x, _,rfl⟩:=List.mem_map.1 hr;revert c;simp [go_sem]
theorem zz7 {l:List StD}:Bel n (.lst 8 (l.map zaO))=True:=by rw [zel,zBS]
theorem zBR {l:List zca}:(∀r ∈ l.map zbm,∀c ∈ r,Bel n c)=True:=by
 refine eq_true ?_;intro r hr c hc;obtain ⟨x, _,rfl⟩:=List.mem_map.1 hr;revert c;simp [go_sem]
theorem zMA {l:List zca}:Bel n (.lst 6 (l.map zbm))=True:=by rw [zel,zBR]
attribute [go_sem high] zz7 zMA
def zae.hand (p:zae) (side:Int):List Int:=if side=0 then p.h0 else p.h1
def zae.withHand (p:zae) (side:Int) (l:List Int):zae:=if side=0 then { p with h0:=l} else { p with h1:=l}
structure zfn (dirs kinds rights:Int) (x:Int×Int):Prop where
 op:1<=x.1∧x.1<=10
 dir:x.1=1∨x.1=2∨x.1=7->0<=x.2∧x.2<dirs
 zero:x.1=3∨x.1=4∨x.1=5∨x.1=6->x.2=0
 kind:x.1=8->0<=x.2∧x.2<kinds
 right:x.1=9∨x.1=10->0<=x.2∧x.2<rights
def za7 (p:List (Int×Int)) (op:Int):Nat:=p.countP (λ x=>x.1==op)
structure zmT (dirs kinds rights:Int) (p:List (Int×Int)):Prop where
 ne:1<=p.length
 len:p.length<=8
 st:∀x ∈ p,zfn dirs kinds rights x
 take:za7 p 6<=2
 push:za7 p 7<=1
 become:za7 p 8<=1
structure ziP (cells kinds:Int) (c:Int×Int×Int×Int):Prop where
 cond:c.1=1∨c.1=2∨c.1=3
 kind:0<=c.2.1∧c.2.1<kinds
 n:0<=c.2.2.1∧(c.1=2->c.2.2.1<cells)∧(c.1=1->c.2.2.1=0)∧c.2.2.1<=64
 then_:1<=c.2.2.2∧c.2.2.2<=3
 few:c.1=3->c.2.1=0
structure GOk (g:zaa):Prop where
 board:zbE g.board
 c1:1<=g.cells
 c9:g.cells<=9
 d1:1<=g.next.length
 d8:g.next.length<=8
 turn:∀d,d<g.turn.length->nth g.turn (nth g.turn d).toNat=d
 k1:1<=g.kinds.length
 k6:g.kinds.length<=6
 pn:∀k ∈ g.kinds,k.progs.length<=8
 pr:∀k ∈ g.kinds,∀p ∈ k.progs,zmT g.next.length g.kinds.length g.rights p
 r0:0<=g.rights
 r4:g.rights<=4
 cl:∀c ∈ g.clauses,ziP g.cells g.kinds.length c
 cn:g.clauses.length<=6
 bl:1<=g.blocked∧g.blocked<=3
 en:1<=g.endless∧g.endless<=3
def zb9 (s:StD):List Int->List StD
 | []=> []
 |c::l=>{ s with cursor:=c}::(if nth s.p.at_ c.toNat=0 then zb9 s l else [])
def zmf (b:zbg) (s:StD) (n:Int):List StD:=zb9 s (zor b s.p.side n s.cursor)
def clr (p:zae) (c:Int):zae:={ p with at_:=p.at_.set c.toNat 0}
def zpK (g:zaa) (s:StD):List StD:=
 let m:=zat (nth s.p.at_ s.cursor.toNat)
 if m.1<0∨m.2=s.p.side then [] else
 if (nth g.kinds m.1.toNat).keep=true then
  if 8<nth (s.p.hand s.p.side) m.1.toNat+1 then []
  else [{ s with p:=(clr s.p s.cursor).withHand s.p.side ((s.p.hand s.p.side).set m.1.toNat (nth (s.p.hand s.p.side) m.1.toNat+1)),took:=true}]
 else [{ s with p:=clr s.p s.cursor,took:=true}]
def zpB (g:zaa) (s:StD) (n:Int):List StD:=
 let to:=toB g.board s.p.side n s.cursor
 if nth s.p.at_ s.cursor.toNat=0∨to<0∨nth s.p.at_ to.toNat≠0 then []
 else [{ s with p:={ s.p with at_:=(s.p.at_.set to.toNat (nth s.p.at_ s.cursor.toNat)).set s.cursor.toNat 0}}]
def zcy (s:StD) (b:Bool):List StD:=if b then [s] else []
def zck (g:zaa) (s:StD) (x:Int×Int):List StD:=
 let m:=zat (nth s.p.at_ s.cursor.toNat)
 if x.1=1 then zcy { s with cursor:=toB g.board s.p.side x.2 s.cursor} (decide (0<=toB g.board s.p.side x.2 s.cursor))
 else if x.1=2 then zmf g.board s x.2
 else if x.1=3 then zcy s (decide (m.1<0))
 else if x.1=4 then zcy s (decide (0<=m.1∧m.2≠s.p.side))
 else if x.1=5 then zcy s (decide (0<=m.1∧m.2=s.p.side))
 else if x.1=6 then zpK g s
 else if x.1=7 then zpB g s x.2
 else if x.1=8 then [{ s with kind:=x.2}]
 else if x.1=9 then zcy s (decide (zru .i64 (s.p.rights.fdiv (2 ^ x.2.toNat)) 1=1))
 else if x.1=10 then [{ s with p:={ s.p with rights:=zgl .i64 s.p.rights (2 ^ x.2.toNat)}}]
 else [s]
def zhw (l:List StD) (more:List StD):List StD:=more.foldl (λ l s=>if s ∈ l then l else l++ [s]) l
def zhH (g:zaa) (now:List StD) (x:Int×Int):List StD:=now.foldl (λ next s=>zhw next (zck g s x)) []
def zf9 (p:zae) (cell:Int):StD:=⟨clr p cell,(zat (nth p.at_ cell.toNat)).1,cell,false⟩
def zhr (g:zaa) (p:zae) (cell:Int) (prog:List (Int×Int)):List StD:=prog.foldl (zhH g) [zf9 p cell]
def zb2 (g:zaa) (p:zae) (cell i:Int):List (Int×Int):=nth (nth g.kinds (zat (nth p.at_ cell.toNat)).1.toNat).progs i.toNat
def zhP (side:Int) (s:StD):Option zca:=
 if nth s.p.at_ s.cursor.toNat=0 then some ⟨{ s.p with at_:=s.p.at_.set s.cursor.toNat (zdF s.kind side),side:=1 - side},s.took⟩ else none
def zmN (a b:zca):Int:=zNc (zbp a.pos b.pos) (zb1 (if a.took then 1 else 0) (if b.took then 1 else 0))
theorem zdk:Cmp zmN:=by
 have h:Cmp (λ (a b:Bool)=>zb1 (if a then 1 else 0) (if b then 1 else 0)):=
  zmu.pull (λ b:Bool=>if b then (1:Int) else 0) (λ a b=>by grind)
 exact (zaK.prod h).pull (λ o:zca=>(o.pos,o.took)) (λ a b e=>by cases a;simp_all)
def zyw (a b:zca):Bool:=decide (zbp a.pos b.pos<0)||(decide (zbp a.pos b.pos=0) && !a.took && b.took)
theorem zwr (a b:zca):zyw a b=decide (zmN a b<0):=by
 grind [zyw,zmN,zNc,zb1]
def zdl (x:zca):List zca->List zca
 | []=> [x]
 |y::l=>if zyw y x then y::zdl x l else if zyw x y then x::y::l else y::l
theorem zkE {x z:zca}:∀ {l:List zca},z ∈ zdl x l↔z=x∨z ∈ l
 | []=>by simp [zdl]
 |y::l=>by
  simp only [zdl];split
  ·rw [List.mem_cons,zkE,List.mem_cons];exact ⟨λ h=>cY,λ h=>cY⟩
  ·split
   ·simp
   ·rename_i h1 h2;rw [zwr] at h1 h2;have:=zdk.swap x y;have e:=(zdk.eq x y).1 (by simp at h1 h2;omega);subst e;simp
theorem zuI {x:zca}:∀ {l:List zca},l.Pairwise (λ a b=>zmN a b<0)->(zdl x l).Pairwise (λ a b=>zmN a b<0)
 | [], _=>by simp [zdl]
 |y::l,h=>by
  rw [List.pairwise_cons] at h;simp only [zdl];split
  ·rename_i h1;rw [zwr] at h1;rw [List.pairwise_cons];refine ⟨λ z hz=> ?_,zuI h.2⟩;rcases zkE.1 hz with rfl|hz
   ·simpa using h1
   ·exact h.1 z hz
  ·split
   ·rename_i h1;rw [zwr] at h1;have hxy:zmN x y<0:=cX;refine List.pairwise_cons.2 ⟨λ z hz=> ?_,List.pairwise_cons.2 h⟩;rcases List.mem_cons.1 hz with rfl|hz
    ·exact hxy
    ·have hyz:=h.1 z hz;have t:=zdk.tr x y z aa aa;rcases Int.lt_or_eq_of_le t with h|h
     ·exact h
     ·have e:=(zdk.eq _ _).1 h;subst e;have:=zdk.swap x y;omega
   ·exact List.pairwise_cons.2 h
theorem zlO:∀ (l acc:List zca),acc.Pairwise (λ a b=>zmN a b<0)->
  (l.foldl (λ a x=>zdl x a) acc).Pairwise (λ a b=>zmN a b<0)∧∀z,z ∈ l.foldl (λ a x=>zdl x a) acc↔z ∈ l∨z ∈ acc
 | [],acc,h=>⟨h,λ z=>ac⟩
 |x::l,acc,h=>by
  obtain ⟨h1,h2⟩:=zlO l (zdl x acc) (zuI h);refine ⟨h1,λ z=> ?_⟩;rw [List.foldl_cons,h2,zkE,List.mem_cons];exact ⟨λ h=>cY,λ h=>by rcases h with (h|h)|h<;>simp [h]⟩
theorem zAF (l:List zca):l.foldl (λ a x=>zdl x a) []=zaS zmN l:=
 (zdg zdk (zlO l [] ac).1 (λ z=>by simp_all [zlO])).symm
def zej (g:zaa) (p:zae) (cell i:Int):List zca:=zaS zmN ((zhr g p cell (zb2 g p cell i)).filterMap (zhP p.side))
def zly (g:zaa) (p:zae) (k c:Nat):Option zae:=
 if nth (p.hand p.side) k=0∨nth p.at_ c≠0 then none
 else some {({ p with at_:=p.at_.set c (zdF k p.side)}.withHand p.side ((p.hand p.side).set k (nth (p.hand p.side) k - 1))) with side:=1 - p.side}
def zpW (g:zaa) (p:zae):List zae:=(List.range g.kinds.length).flatMap λ k=>(List.range p.at_.length).filterMap λ c=>zly g p k c
def zc8 (g:zaa) (p:zae):List zae:=zaS zbp (zpW g p)
def zk9 (p:zae) (side kind:Int) (c:Int):Bool:=decide (0<=(zat c).1) && decide ((zat c).2=side) && (decide (kind<0)||decide ((zat c).1=kind))
def zCr (p:zae) (side kind:Int):Nat:=p.at_.countP (zk9 p side kind)
def zjo (c:Int×Int×Int×Int) (p:zae):Bool:=
 if c.1=1 then decide (zCr p p.side c.2.1=0)
 else if c.1=2 then decide (nth p.at_ c.2.2.1.toNat=zdF c.2.1 (1 - p.side))
 else decide ((zCr p p.side (-1):Int)<=c.2.2.1)
def zbi (g:zaa) (p:zae):Int:=match g.clauses.findIdx? (λ c=>zjo c p) with|some i=>(i:Int)|none=> -1
def zgj (g:zaa) (p:zae) (c:Nat):List zca:=
 if 0<=(zat (nth p.at_ c)).1∧(zat (nth p.at_ c)).2=p.side then
  (List.range (nth g.kinds (zat (nth p.at_ c)).1.toNat).progs.length).flatMap λ (i:Nat)=>zej g p c i
 else []
def zgt (g:zaa) (p:zae):List zca:=(List.range p.at_.length).flatMap (zgj g p)
def zff (g:zaa) (p:zae):Bool:=g.must && (zgt g p).any (·.took)
def zfY (g:zaa) (p:zae):List zae:=((zgt g p).filter λ o=> !zff g p||o.took).map (·.pos)++(if zff g p then [] else zc8 g p)
def zai (g:zaa) (p:zae):List zae:=if 0<=zbi g p then [] else zaS zbp (zfY g p)
structure zqi where
 w:Int
 h:Int
 cut:Int
 k0:List Int
 k1:List Int
 c:List (Int×Int×Int)
 f0:Int
 f1:Int
 f2:Int
 f3:Int
 f4:Int
 f5:Int
def U8 (n:Int):Prop:=0<=n∧n<=255
structure zDe (x:zqi):Prop where
 w:U8 x.w
 h:U8 x.h
 cut:U8 x.cut
 k0:∀n ∈ x.k0,U8 n
 k1:∀n ∈ x.k1,U8 n
 c:∀t ∈ x.c,U8 t.1∧U8 t.2.1∧U8 t.2.2
 f0:U8 x.f0
 f1:U8 x.f1
 f2:U8 x.f2
 f3:U8 x.f3
 f4:U8 x.f4
 f5:U8 x.f5
def zGZ (c:Int×Int×Int):List AV:= [.v (.int .u8 c.1), .v (.int .u8 c.2.1), .v (.int .u8 c.2.2)]
def zgU (x:zqi):List AV:= [.v (.int .u8 x.w), .v (.int .u8 x.h), .v (.int .u8 x.cut),zDL x.k0,zDL x.k1, .lst 3 (x.c.map zGZ),
 .v (.int .u8 x.f0), .v (.int .u8 x.f1), .v (.int .u8 x.f2), .v (.int .u8 x.f3), .v (.int .u8 x.f4), .v (.int .u8 x.f5)]
attribute [go_sem] zGZ zgU
variable {l:List (Int×Int×Int)}
theorem zLw :(∀r ∈ l.map zGZ,∀c ∈ r,Bel n c)=True:=by
 refine eq_true ?_;intro r hr c hc;obtain ⟨x, _,rfl⟩:=List.mem_map.1 hr;revert c;simp [go_sem]
theorem zMx :Bel n (.lst 3 (l.map zGZ))=True:=by rw [zel,zLw]
theorem zMz {l:List zhn}:(∀r ∈ l.map zbq,∀c ∈ r,Bel n c)=True:=by
 refine eq_true ?_;intro r hr c hc;obtain ⟨x, _,rfl⟩:=List.mem_map.1 hr;simp only [zbq,List.mem_cons,List.not_mem_nil,or_false] at hc;rcases hc with rfl|rfl|rfl
 ·exact .v _
 ·refine .lst λ r hr c hc=> ?_;grind [zvK]
 ·exact .v _
theorem bel_Ks {l:List zhn}:Bel n (.lst 3 (l.map zbq))=True:=by rw [zel,zMz]
theorem zGd {l:List (Int×Int×Int×Int)}:(∀r ∈ l.map zaZ,∀c ∈ r,Bel n c)=True:=by
 refine eq_true ?_;intro r hr c hc;obtain ⟨x, _,rfl⟩:=List.mem_map.1 hr;revert c;simp [go_sem]
theorem zMy {l:List (Int×Int×Int×Int)}:Bel n (.lst 4 (l.map zaZ))=True:=by rw [zel,zGd]
theorem zGe {l:List (List (Int×Int))}:(∀r ∈ l.map (λ p=> [zaT p]),∀c ∈ r,Bel n c)=True:=by
 grind [zvK,zaT]
theorem zMC {l:List (List (Int×Int))}:Bel n (.lst 1 (l.map (λ p=> [zaT p])))=True:=by rw [zel,zGe]
attribute [go_sem high] zMx bel_Ks zMy zMC
attribute [go_sem ↓] zLw zMz zGd zGe zDq zJU zBS zBR List.forall_mem_append
def zqm:ByteArray:=⟨#[97]⟩
def ztS:ByteArray:=⟨#[98,101,101]⟩
def zGv (f:Int) (i:Nat):Bool:=decide (zru .u8 (f.fdiv (2 ^ i)) 1=1)
def zg5 (x:zqi):Nat:=if x.k1= [] then 1 else 2
def zqi.board (x:zqi):zbg:=zla x.w x.h x.cut
def zqi.rights (x:zqi):Int:=x.f0.tmod 3
def zqi.ks (x:zqi) (i:Nat):List Int:=if i=0 then x.k0 else x.k1
def zk1 (x:zqi) (i:Nat):zhn:=
 ⟨if i=0 then zqm else ztS,((x.ks i).take 4).map (λ n=>zsu n x.board.next.length (zg5 x) x.rights),zGv x.f2 i⟩
def zcC (cells kinds:Int) (c:Int×Int×Int):Int×Int×Int×Int:=
 (1+c.1.tmod 3,(if 1+c.1.tmod 3≠3 then c.2.1.tmod kinds else 0),(if 1+c.1.tmod 3=2 then c.2.2.tmod cells else if 1+c.1.tmod 3=3 then c.2.2.tmod 3 else 0),1+(c.1.tdiv 4).tmod 3)
def zgr (x:zqi):zaa:=
 { cells:=x.board.cells,next:=x.board.next,turn:=x.board.turn,kinds:=(List.range (zg5 x)).map (zk1 x),rights:=x.rights,must:=decide (x.f1.tmod 4=3),clauses:=(x.c.take 3).map (zcC x.board.cells (zg5 x)),blocked:=if x.f3.tmod 4=3 then 1+(x.f3.tdiv 4).tmod 3 else 3,endless:=if x.f4.tmod 4=3 then 1+(x.f4.tdiv 4).tmod 3 else 2}
@[go_sem] theorem zJh (s:ByteArray):(Value.string s).oneCell'=true:=rfl
def ksR (x:zqi) (i:Nat):List (List AV):=((List.range i).map (zk1 x)).map zbq
def zKw (k:zhn):List AV:=zbq k
theorem zqT (x:zqi) (i:Nat):ksR x (i+1)=ksR x i++ [zKw (zk1 x i)]:=by simp [ksR,List.range_succ,zKw]
@[go_sem] theorem ksR_zero (x:zqi):ksR x 0= []:=rfl
@[go_sem] theorem zHC (x:zqi) (i:Nat):(ksR x i).length=i:=by simp [ksR]
@[go_sem ↓] theorem bel_ksR {x:zqi}{i:Nat}:(∀r ∈ ksR x i,∀c ∈ r,Bel n c)=True:=zMz
def psR (f:Int->List (Int×Int)) (l:List Int) (n:Nat):List (List AV):=((l.take n).map f).map λ p=> [zaT p]
theorem zq2 (f:Int->List (Int×Int)) (l:List Int) (h:n<l.length):psR f l (n+1)=psR f l n++ [[zaT (f (nth l n))]]:=by
 grind [psR,List.take_add_one,nth]
theorem zl5 (f:Int->List (Int×Int)) (l:List Int) (h:n<=l.length):(psR f l n).length=n:=by grind [psR]
@[go_sem] theorem psR_zero (f:Int->List (Int×Int)) (l:List Int):psR f l 0= []:=rfl
@[go_sem ↓] theorem bel_psR {m:Nat}{f:Int->List (Int×Int)}{l:List Int}:(∀r ∈ psR f l n,∀c ∈ r,Bel m c)=True:=zGe
def clR (cells kinds:Int) (l:List (Int×Int×Int)) (n:Nat):List (List AV):=((l.take n).map (zcC cells kinds)).map zaZ
def zB2 (c:Int×Int×Int×Int):List AV:=zaZ c
theorem zB3 (cells kinds:Int) (l:List (Int×Int×Int)) (h:n<l.length):clR cells kinds l (n+1)=clR cells kinds l n++ [zB2 (zcC cells kinds (nth l n))]:=by
 grind [clR,List.take_add_one,zB2,nth]
theorem zvS (cells kinds:Int) (l:List (Int×Int×Int)) (h:n<=l.length):(clR cells kinds l n).length=n:=by grind [clR]
@[go_sem] theorem clR_zero (cells kinds:Int) (l:List (Int×Int×Int)):clR cells kinds l 0= []:=rfl
@[go_sem ↓] theorem bel_clR {m:Nat}{cells kinds:Int}:(∀r ∈ clR cells kinds l n,∀c ∈ r,Bel m c)=True:=zGd
theorem zuW (w h cut:Int):(zla w h cut).next.length=8:=by
 grind [zla,zeR,zbW,zij,zdr]
theorem zss {w h:Int} (hw:0<=w) (hh:0<=h) (cut:Int):1<=(zla w h cut).cells∧(zla w h cut).cells<=9:=by
 have a0:=Int.tmod_nonneg 3 hw;have a1:=Int.tmod_lt_of_pos w (show (0:Int)<3 by decide);have b0:=Int.tmod_nonneg 3 hh;have b1:=Int.tmod_lt_of_pos h (show (0:Int)<3 by decide);have e:(zla w h cut).cells=((1+w.tmod 3).toNat:Int) * ((1+h.tmod 3).toNat:Int):=by
  grind [zla,zeR,zij]
 rw [e];obtain ⟨W,hW⟩:∃W:Nat,1+w.tmod 3=W:=⟨(1+w.tmod 3).toNat,aa⟩
 obtain ⟨H,hH⟩:∃H:Nat,1+h.tmod 3=H:=⟨(1+h.tmod 3).toNat,aa⟩
 rw [hW,hH,Int.toNat_natCast,Int.toNat_natCast];rcases (show W=1∨W=2∨W=3 by omega) with rfl|rfl|rfl<;>omega
@[go_sem ↓] theorem bel_setI {k:Nat}{l:List Int}{v:Value}:(∀r ∈ (l.map zd2).set k [.v v],∀c ∈ r,Bel n c)=True:=by
 refine eq_true λ r hr c hc=> ?_;rcases List.mem_or_eq_of_mem_set hr with hr|rfl
 ·exact of_eq_true zJU r hr c hc
 ·simp only [List.mem_cons,List.not_mem_nil,or_false] at hc;subst hc;exact .v _
structure ztu where
 cell:List Int
 kind:List Int
 hand:List Int
 rights:Int
 side:Int
structure zrj (x:ztu):Prop where
 c6:x.cell.length=6
 k6:x.kind.length=6
 h4:x.hand.length=4
 cv:∀n ∈ x.cell,U8 n
 kv:∀n ∈ x.kind,U8 n
 hv:∀n ∈ x.hand,U8 n
 r:U8 x.rights
 s:U8 x.side
def zfc (x:ztu):List AV:=x.cell.map (λ n=> .v (.int .u8 n))++(x.kind.map (λ n=> .v (.int .u8 n))++(x.hand.map (λ n=> .v (.int .u8 n))++ [.v (.int .u8 x.rights), .v (.int .u8 x.side)]))
theorem cel_u8 (l:List Int) (r:List AV) (i:Nat) (h:i<l.length):cel (l.map (λ n=>AV.v (.int .u8 n))++r) i= .v (.int .u8 (nth l i)):=by
 grind [cel,nth,List.getElem?_append_left]
theorem zAj (l:List Int) (r:List AV) (i:Nat):cel (l.map (λ n=>AV.v (.int .u8 n))++r) (l.length+i)=cel r i:=by
 grind [cel]
structure RawRow (x:ztu) (er:List AV):Prop where
 len:er.length=18
 c:∀i,i<6->cel er i= .v (.int .u8 (nth x.cell i))
 k:∀i,i<6->cel er (6+i)= .v (.int .u8 (nth x.kind i))
 h:∀i,i<4->cel er (12+i)= .v (.int .u8 (nth x.hand i))
 r:cel er 16= .v (.int .u8 x.rights)
 s:cel er 17= .v (.int .u8 x.side)
 b:∀n,(∀c ∈ er,Bel n c)=True
theorem zl9 {x:ztu} (hx:zrj x):RawRow x (zfc x):=by
 obtain ⟨a,b,c, _, _, _, _, _⟩:=hx;have e1:∀i,cel (zfc x) (6+i)=cel (x.kind.map (λ n=>AV.v (.int .u8 n))++(x.hand.map (λ n=>AV.v (.int .u8 n))++ [.v (.int .u8 x.rights), .v (.int .u8 x.side)])) i:=λ i=>by
  grind [zAj,zfc]
 have e2:∀i,cel (zfc x) (12+i)=cel (x.hand.map (λ n=>AV.v (.int .u8 n))++ [.v (.int .u8 x.rights), .v (.int .u8 x.side)]) i:=λ i=>by
  grind [zAj]
 have e3:∀i,cel (zfc x) (16+i)=cel [AV.v (.int .u8 x.rights), .v (.int .u8 x.side)] i:=λ i=>by
  grind [zAj]
 refine ⟨by simp [zfc,a,b,c],λ i hi=>cel_u8 x.cell _ i aa,λ i hi=> ?_,λ i hi=> ?_,e3 0,e3 1,λ n=>eq_true ?_⟩
 ·grind [cel,nth]
 ·grind [cel,nth]
 ·intro c hc;simp only [zfc,List.mem_append,List.mem_map,List.mem_cons,List.not_mem_nil,or_false] at hc;rcases hc with ⟨_, _,rfl⟩|⟨_, _,rfl⟩|⟨_, _,rfl⟩|rfl|rfl<;>exact .v _
def zuj (g:zaa) (x:ztu) (l:List Int) (i:Nat):List Int:=
 if (nth x.cell i).tmod (g.cells+1)<g.cells then l.set ((nth x.cell i).tmod (g.cells+1)).toNat (1+2 * (nth x.kind i).tmod g.kinds.length+(i:Int).tmod 2) else l
def zi8 (g:zaa) (x:ztu) (n:Nat):List Int:=(List.range n).foldl (zuj g x) (List.replicate g.cells.toNat 0)
theorem znn (g:zaa) (x:ztu) (n:Nat):zi8 g x (n+1)=zuj g x (zi8 g x n) n:=by simp [zi8,List.range_succ]
theorem zDn (g:zaa) (x:ztu) (l:List Int) (i:Nat):(zuj g x l i).length=l.length:=by grind [zuj]
theorem zps (g:zaa) (x:ztu) (n:Nat):(zi8 g x n).length=g.cells.toNat:=by
 induction n<;>grind [zi8,znn,zDn]
def zAz (g:zaa) (x:ztu) (s k:Nat):Int:=
 if (nth g.kinds k).keep=true then (if 250<nth x.hand (2 * s+k) then 8 else (nth x.hand (2 * s+k)).tmod 3) else 0
def zjZ (g:zaa) (x:ztu) (s n:Nat):List Int:=(List.range g.kinds.length).map λ j=>if j<n then zAz g x s j else 0
theorem zg4 (g:zaa) (x:ztu) (s n:Nat):(zjZ g x s n).length=g.kinds.length:=by simp [zjZ]
theorem zuE (g:zaa) (x:ztu) (s:Nat):zjZ g x s 0=List.replicate g.kinds.length 0:=by
 unfold zjZ;apply List.ext_getElem<;>simp
theorem zuD (g:zaa) (x:ztu) (s n:Nat):zjZ g x s (n+1)=(zjZ g x s n).set n (zAz g x s n):=by
 apply List.ext_getElem;all_goals grind [zjZ]
theorem zuC (g:zaa) (x:ztu) (s n:Nat) (h:zAz g x s n=0):zjZ g x s (n+1)=zjZ g x s n:=by
 grind [zjZ]
def zju (g:zaa) (x:ztu):zae:=⟨zi8 g x 6,zjZ g x 0 (min g.kinds.length 2),zjZ g x 1 (min g.kinds.length 2),x.rights.tmod (2 ^ g.rights.toNat),x.side.tmod 2⟩
end Go.Av
end
